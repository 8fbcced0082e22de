/- The reference's Right of exports. (printed by mky2.py) -/
import Derived.Test.YtaalbcfpacpgfaaGreatZaY1
import Derived.Test.YtaalbcfpacpgfaaGreatZaXA
set_option linter.unusedVariables false
set_option linter.unusedSimpArgs false
namespace Go.Proofs.YtaalbcfpacpgfaaGreat
open Go.RowKit Go.Lib Go.Vfs Go.Par Go.Typ Go.Shelf
def ExOk (x:Ex):Prop:=x.ty.parts≤1000000000∧NmB 1000000000 x.ty∧x.name.size≤1000000000
theorem wrapJ (x:Int) (h0:-9223372036854775808≤x) (h1:x≤9223372036854775807):IntKind.i64.wrap x=x:=by
 unfold IntKind.wrap
 simp [IntKind.signed,IntKind.bits]
 omega
theorem no_iff {z:Int} {n:Bool} (h:z=1↔n=true) (hz:¬ z=1):n=false:=by
 cases n with
 | false=>rfl
 | true=>exact absurd (h.2 rfl) hz
set_option maxRecDepth 20000 in
set_option maxHeartbeats 8000000 in
theorem rright14_any (xs:List Ex) (hok:∀ x∈xs,ExOk x) (v:Value) (w:World) (hX:ExsAt (· < w.heap.size) w v xs):Calls Tryz.prog 119 #[v] w fun e w'=>e=.returned (.bool (rightX xs))∧Below w.heap.size w w':=by
 obtain ⟨A,c,rfl,hc,hm⟩:=hX.form
 have hla:xs.length≤9223372036854775807:=by simp only [maxLen] at hm;omega
 have HX:=Lib.hid hX
 have HOKS:=Lib.hid hok
 clear hX hc hm hok
 by_cases hl:xs.length≤1000
 rotate_left
 ·have HR:Hid (rightX xs=false):=Lib.hid (by unfold rightX;rw [decide_eq_false hl,Bool.false_and])
  have g:(1000:Int) < (xs.length:Int):=by omega
  clear hl
  go_enter Tryz.func119,Tryz.ntmps119
  go_wp2
  go_ret
  rw [HR.out]
  exact ⟨rfl,Below.refl _ _⟩
 have g:¬ (1000:Int) < (xs.length:Int):=by omega
 go_enter Tryz.func119,Tryz.ntmps119
 go_wp2
 clear g
 go_loopw [3] (fun iv W=>∃ (k:Nat),k≤xs.length∧iv=.int .i64 k∧Hid (∀ i,i < k→goodX xs i=true)∧Hid (Below w.heap.size w W)) (fun iv _=>xs.length - (RowKit.intOf iv).toNat)
 case atStart=>exact ⟨0,by omega,rfl,Lib.hid fun i hi=>by omega,Lib.hid (Below.refl _ _)⟩
 case round =>
  obtain ⟨k,hk,rfl,HA,HB⟩:=hrel
  by_cases hlt:k < xs.length
  rotate_left
  ·have hkl:k=xs.length:=by omega
   have HR:Hid (rightX xs=true):=Lib.hid (rightX_true hl fun i hi=>HA.out i (by omega))
   go_wp2
   go_ret
   rw [HR.out]
   exact ⟨rfl,HB.out⟩
  have hxr:=HX.out.blw HB.out
  obtain ⟨b,off,A',c',rfl,hb,hns,ht,x0,x1,x2,x3,x4⟩:=hxr.arg hlt
  have HPREV:Hid (0 < k→wr.cell? ⟨b,off+(k - 1) * 5,none⟩=some (.string (xs.getD (k - 1) xs[k]).name)):=Lib.hid fun h0=>by
   have hl2:k - 1 < xs.length:=by omega
   obtain ⟨b2,off2,_,_,e2,_,_,_,p0,_⟩:=hxr.arg hl2
   injection e2 with e2
   injection e2 with eb eo
   subst eb eo
   rw [List.getD_eq_getElem?_getD,List.getElem?_eq_getElem hl2]
   exact p0
  have hgd:=goodX_at hlt
  have HF:Hid (goodX xs k=false→rightX xs=false):=Lib.hid (rightX_false hlt)
  have HNX:Hid (goodX xs k=true→∀ i,i < k+1→goodX xs i=true):=Lib.hid fun h i hi=>by
   by_cases e:i=k
   ·rw [e];exact h
   ·exact HA.out i (by omega)
  have hxk:=HOKS.out _ (List.getElem_mem hlt)
  generalize xs.getD (k - 1) xs[k]=P at *
  generalize xs[k]=X at *
  have HGD:=Lib.hid hgd
  obtain ⟨W2,hW2⟩:∃ W2,W2=wr.alloc (.cells #[.string X.name,.int .i64 X.ty.kind,.int .i64 X.ty.num,.string X.ty.name,.slice A' X.ty.args.length c'] 63):=⟨_,rfl⟩
  have hb2:Below wr.heap.size wr W2:=by rw [hW2];exact (Below.refl _ _).alloc (Nat.le_refl _) _
  have hbx:W2.heap[wr.heap.size]? = some (.cells #[.string X.name,.int .i64 X.ty.kind,.int .i64 X.ty.num,.string X.ty.name,.slice A' X.ty.args.length c'] 63 (0,0)):=by rw [hW2];exact heap_alloc_new _ _
  have HB2:Hid (Below w.heap.size w W2):=Lib.hid (HB.out.trans (hb2.mono HB.out.size))
  have HT2:=Lib.hid (ht.blw hb2)
  have HXK:=Lib.hid hxk
  have HKN:=Lib.hid (fun W=>r8kind_any X.name hxk.2.2 W)
  have HCL:Hid (∀ W,Below W2.heap.size W2 W→Calls Tryz.prog 149 #[.agg #[.int .i64 X.ty.kind,.int .i64 X.ty.num,.string X.ty.name,.slice A' X.ty.args.length c']] W fun e w'=>e=.returned (.bool (closedT X.ty))∧Below W.heap.size W w'):=Lib.hid fun W h=>rclosed_any X.ty _ W (HT2.out.blw h) (by have:=HXK.out.1;omega) HXK.out.2.1
  have HSM:Hid (∀ W,Below W2.heap.size W2 W→Calls Tryz.prog 150 #[.agg #[.int .i64 X.ty.kind,.int .i64 X.ty.num,.string X.ty.name,.slice A' X.ty.args.length c']] W fun e w'=>e=.returned (.bool (shortT X.ty))∧Below W.heap.size W w'):=Lib.hid fun W h=>r14small_any X.ty _ W (HT2.out.blw h)
  have hlb:=lt_blk hbx
  have HSK:Hid (∀ W,Below W2.heap.size W2 W→(W.cell? ⟨wr.heap.size,0,none⟩=some (.string X.name)∧W.cell? ⟨wr.heap.size,1,none⟩=some (.int .i64 X.ty.kind)∧W.cell? ⟨wr.heap.size,2,none⟩=some (.int .i64 X.ty.num)∧W.cell? ⟨wr.heap.size,3,none⟩=some (.string X.ty.name)∧W.cell? ⟨wr.heap.size,4,none⟩=some (.slice A' X.ty.args.length c'))):=Lib.hid fun W h=>box5 ((h.block _ hlb).trans hbx)
  have HSP:Hid (0 < k→∀ W,Below W2.heap.size W2 W→W.cell? ⟨b,off+(k - 1) * 5,none⟩=some (.string P.name)):=Lib.hid fun h0 W h=>by
   have hbl:b < W2.heap.size:=by have:=hb2.size;omega
   exact (h.cell (p:=⟨b,off+(k - 1) * 5,none⟩) hbl).trans ((hb2.cell (p:=⟨b,off+(k - 1) * 5,none⟩) hb).trans (HPREV.out h0))
  have HBD:Hid (Below W2.heap.size W2 W2.drew):=Lib.hid (Below.refl W2.heap.size _).drew
  have hnsz:X.name.size≤9223372036854775807:=hns
  clear ht hxr hgd hb2 hbx hxk hlb hns
  go_upto_region 7 with fail
  rw [←hW2]
  clear hW2 x0 x1 x2 x3 x4 HPREV
  obtain ⟨j,hj⟩:∃ j,j=k - 1:=⟨_,rfl⟩
  rw [←hj] at HSP
  have hsub:0 < k→(k:Int) - 1=(j:Int):=fun h=>by omega
  have hjl:0 < k→j < xs.length:=fun h=>by omega
  have HSUB:=Lib.hid hsub;have HJL:=Lib.hid hjl
  clear hj hsub hjl
  by_cases hk0:k=0
  ·have hgd0:decide ((0:Int) < (k:Int))=false:=decide_eq_false (by omega)
   have HK0:=Lib.hid hk0
   clear hk0
   have HS0:=Lib.hid (HSK.out W2.drew HBD.out)
   refine wp_region_held (S:=(fun w2:World=>w2.cell? ⟨wr.heap.size,0,none⟩=some (.string X.name)∧w2.cell? ⟨wr.heap.size,1,none⟩=some (.int .i64 X.ty.kind)∧w2.cell? ⟨wr.heap.size,2,none⟩=some (.int .i64 X.ty.num)∧w2.cell? ⟨wr.heap.size,3,none⟩=some (.string X.ty.name)∧w2.cell? ⟨wr.heap.size,4,none⟩=some (.slice A' X.ty.args.length c'))) (by kernel_rfl) ?_
   refine takeD (i:=0) (s:=18) (v:=.pointer (some ⟨wr.heap.size,0,none⟩)) rfl rfl (by kernel_rfl) (by kernel_rfl) (by kernel_rfl) (fun _ _ _ h=>h) (Or.inl ⟨by rfl,fun w' hS=>by obtain ⟨s0,s1,s2,s3,s4⟩:=hS;go_simp⟩) HS0.out ?_
   try simp only [List.setIfInBounds_toArray,List.set_cons_zero,List.set_cons_succ]
   refine takeD (i:=1) (s:=19) (v:=.string X.name) rfl rfl (by kernel_rfl) (by kernel_rfl) (by kernel_rfl) (fun _ _ _ h=>h) (Or.inl ⟨by rfl,fun w' hS=>by obtain ⟨s0,s1,s2,s3,s4⟩:=hS;go_simp⟩) HS0.out ?_
   try simp only [List.setIfInBounds_toArray,List.set_cons_zero,List.set_cons_succ]
   refine wpAnyH_all (rs:=[2]) (by kernel_rfl) (by simp) ?_
   intro i hi
   simp only [List.mem_cons,List.not_mem_nil,or_false] at hi
   subst hi
   refine wpOp_ofQ rfl rfl (fun K hK=>?_)
   go_simp
   refine (HKN.out W2.drew).mono ?_
   rintro e w3 ⟨z,rfl,hz,hb3⟩
   have HB3:=Lib.hid (HBD.out.trans (hb3.mono HBD.out.size))
   have HZZ:=Lib.hid hz
   have HS3:=Lib.hid (HSK.out w3 HB3.out)
   clear hb3 hz
   refine hK _ _ ⟨HS3.out,?_⟩
   clear hK K
   try simp only [List.setIfInBounds_toArray,List.set_cons_zero,List.set_cons_succ]
   by_cases hz1:z=1
   rotate_left
   ·have hzb:(z != 1)=true:=by simp [hz1]
    have HZ1:=Lib.hid hz1
    clear hz1
    refine takeD (i:=3) (s:=21) (v:=.bool true) rfl rfl (by kernel_rfl) (by kernel_rfl) (by kernel_rfl) (fun _ _ _ h=>h) (Or.inl ⟨by rfl,fun w' hS=>by obtain ⟨s0,s1,s2,s3,s4⟩:=hS;go_simp⟩) HS3.out ?_
    try simp only [List.setIfInBounds_toArray,List.set_cons_zero,List.set_cons_succ]
    refine takeD (i:=4) (s:=22) (v:=.bool true) rfl rfl (by kernel_rfl) (by kernel_rfl) (by kernel_rfl) (fun _ _ _ h=>h) (Or.inl ⟨by rfl,fun w' hS=>by obtain ⟨s0,s1,s2,s3,s4⟩:=hS;go_simp⟩) HS3.out ?_
    try simp only [List.setIfInBounds_toArray,List.set_cons_zero,List.set_cons_succ]
    refine takeD (i:=5) (s:=23) (v:=undef) rfl rfl (by kernel_rfl) (by kernel_rfl) (by kernel_rfl) (fun _ _ _ h=>h) (Or.inr ⟨by rfl,rfl⟩) HS3.out ?_
    try simp only [List.setIfInBounds_toArray,List.set_cons_zero,List.set_cons_succ]
    refine takeD (i:=6) (s:=24) (v:=undef) rfl rfl (by kernel_rfl) (by kernel_rfl) (by kernel_rfl) (fun _ _ _ h=>h) (Or.inr ⟨by rfl,rfl⟩) HS3.out ?_
    try simp only [List.setIfInBounds_toArray,List.set_cons_zero,List.set_cons_succ]
    refine takeD (i:=7) (s:=25) (v:=undef) rfl rfl (by kernel_rfl) (by kernel_rfl) (by kernel_rfl) (fun _ _ _ h=>h) (Or.inr ⟨by rfl,rfl⟩) HS3.out ?_
    try simp only [List.setIfInBounds_toArray,List.set_cons_zero,List.set_cons_succ]
    refine takeD (i:=8) (s:=26) (v:=undef) rfl rfl (by kernel_rfl) (by kernel_rfl) (by kernel_rfl) (fun _ _ _ h=>h) (Or.inr ⟨by rfl,rfl⟩) HS3.out ?_
    try simp only [List.setIfInBounds_toArray,List.set_cons_zero,List.set_cons_succ]
    refine takeD (i:=9) (s:=27) (v:=.bool true) rfl rfl (by kernel_rfl) (by kernel_rfl) (by kernel_rfl) (fun _ _ _ h=>h) (Or.inl ⟨by rfl,fun w' hS=>by obtain ⟨s0,s1,s2,s3,s4⟩:=hS;go_simp⟩) HS3.out ?_
    try simp only [List.setIfInBounds_toArray,List.set_cons_zero,List.set_cons_succ]
    refine takeD (i:=10) (s:=28) (v:=.bool true) rfl rfl (by kernel_rfl) (by kernel_rfl) (by kernel_rfl) (fun _ _ _ h=>h) (Or.inl ⟨by rfl,fun w' hS=>by obtain ⟨s0,s1,s2,s3,s4⟩:=hS;go_simp⟩) HS3.out ?_
    try simp only [List.setIfInBounds_toArray,List.set_cons_zero,List.set_cons_succ]
    refine takeD (i:=11) (s:=29) (v:=undef) rfl rfl (by kernel_rfl) (by kernel_rfl) (by kernel_rfl) (fun _ _ _ h=>h) (Or.inr ⟨by rfl,rfl⟩) HS3.out ?_
    try simp only [List.setIfInBounds_toArray,List.set_cons_zero,List.set_cons_succ]
    refine takeD (i:=12) (s:=30) (v:=undef) rfl rfl (by kernel_rfl) (by kernel_rfl) (by kernel_rfl) (fun _ _ _ h=>h) (Or.inr ⟨by rfl,rfl⟩) HS3.out ?_
    try simp only [List.setIfInBounds_toArray,List.set_cons_zero,List.set_cons_succ]
    refine takeD (i:=13) (s:=31) (v:=undef) rfl rfl (by kernel_rfl) (by kernel_rfl) (by kernel_rfl) (fun _ _ _ h=>h) (Or.inr ⟨by rfl,rfl⟩) HS3.out ?_
    try simp only [List.setIfInBounds_toArray,List.set_cons_zero,List.set_cons_succ]
    refine takeD (i:=14) (s:=32) (v:=undef) rfl rfl (by kernel_rfl) (by kernel_rfl) (by kernel_rfl) (fun _ _ _ h=>h) (Or.inr ⟨by rfl,rfl⟩) HS3.out ?_
    try simp only [List.setIfInBounds_toArray,List.set_cons_zero,List.set_cons_succ]
    refine takeD (i:=15) (s:=33) (v:=undef) rfl rfl (by kernel_rfl) (by kernel_rfl) (by kernel_rfl) (fun _ _ _ h=>h) (Or.inr ⟨by rfl,rfl⟩) HS3.out ?_
    try simp only [List.setIfInBounds_toArray,List.set_cons_zero,List.set_cons_succ]
    refine takeD (i:=16) (s:=34) (v:=undef) rfl rfl (by kernel_rfl) (by kernel_rfl) (by kernel_rfl) (fun _ _ _ h=>h) (Or.inr ⟨by rfl,rfl⟩) HS3.out ?_
    try simp only [List.setIfInBounds_toArray,List.set_cons_zero,List.set_cons_succ]
    refine takeD (i:=17) (s:=35) (v:=undef) rfl rfl (by kernel_rfl) (by kernel_rfl) (by kernel_rfl) (fun _ _ _ h=>h) (Or.inr ⟨by rfl,rfl⟩) HS3.out ?_
    try simp only [List.setIfInBounds_toArray,List.set_cons_zero,List.set_cons_succ]
    refine takeD (i:=18) (s:=36) (v:=undef) rfl rfl (by kernel_rfl) (by kernel_rfl) (by kernel_rfl) (fun _ _ _ h=>h) (Or.inr ⟨by rfl,rfl⟩) HS3.out ?_
    try simp only [List.setIfInBounds_toArray,List.set_cons_zero,List.set_cons_succ]
    refine takeD (i:=19) (s:=37) (v:=undef) rfl rfl (by kernel_rfl) (by kernel_rfl) (by kernel_rfl) (fun _ _ _ h=>h) (Or.inr ⟨by rfl,rfl⟩) HS3.out ?_
    try simp only [List.setIfInBounds_toArray,List.set_cons_zero,List.set_cons_succ]
    refine takeD (i:=20) (s:=38) (v:=undef) rfl rfl (by kernel_rfl) (by kernel_rfl) (by kernel_rfl) (fun _ _ _ h=>h) (Or.inr ⟨by rfl,rfl⟩) HS3.out ?_
    try simp only [List.setIfInBounds_toArray,List.set_cons_zero,List.set_cons_succ]
    refine takeD (i:=21) (s:=39) (v:=undef) rfl rfl (by kernel_rfl) (by kernel_rfl) (by kernel_rfl) (fun _ _ _ h=>h) (Or.inr ⟨by rfl,rfl⟩) HS3.out ?_
    try simp only [List.setIfInBounds_toArray,List.set_cons_zero,List.set_cons_succ]
    refine takeD (i:=22) (s:=40) (v:=undef) rfl rfl (by kernel_rfl) (by kernel_rfl) (by kernel_rfl) (fun _ _ _ h=>h) (Or.inr ⟨by rfl,rfl⟩) HS3.out ?_
    try simp only [List.setIfInBounds_toArray,List.set_cons_zero,List.set_cons_succ]
    refine takeD (i:=23) (s:=41) (v:=undef) rfl rfl (by kernel_rfl) (by kernel_rfl) (by kernel_rfl) (fun _ _ _ h=>h) (Or.inr ⟨by rfl,rfl⟩) HS3.out ?_
    try simp only [List.setIfInBounds_toArray,List.set_cons_zero,List.set_cons_succ]
    refine takeD (i:=24) (s:=42) (v:=.bool true) rfl rfl (by kernel_rfl) (by kernel_rfl) (by kernel_rfl) (fun _ _ _ h=>h) (Or.inl ⟨by rfl,fun w' hS=>by obtain ⟨s0,s1,s2,s3,s4⟩:=hS;go_simp⟩) HS3.out ?_
    try simp only [List.setIfInBounds_toArray,List.set_cons_zero,List.set_cons_succ]
    refine takeD (i:=25) (s:=43) (v:=.bool true) rfl rfl (by kernel_rfl) (by kernel_rfl) (by kernel_rfl) (fun _ _ _ h=>h) (Or.inl ⟨by rfl,fun w' hS=>by obtain ⟨s0,s1,s2,s3,s4⟩:=hS;go_simp⟩) HS3.out ?_
    try simp only [List.setIfInBounds_toArray,List.set_cons_zero,List.set_cons_succ]
    refine takeD (i:=26) (s:=44) (v:=undef) rfl rfl (by kernel_rfl) (by kernel_rfl) (by kernel_rfl) (fun _ _ _ h=>h) (Or.inr ⟨by rfl,rfl⟩) HS3.out ?_
    try simp only [List.setIfInBounds_toArray,List.set_cons_zero,List.set_cons_succ]
    refine takeD (i:=27) (s:=45) (v:=undef) rfl rfl (by kernel_rfl) (by kernel_rfl) (by kernel_rfl) (fun _ _ _ h=>h) (Or.inr ⟨by rfl,rfl⟩) HS3.out ?_
    try simp only [List.setIfInBounds_toArray,List.set_cons_zero,List.set_cons_succ]
    refine takeD (i:=28) (s:=46) (v:=undef) rfl rfl (by kernel_rfl) (by kernel_rfl) (by kernel_rfl) (fun _ _ _ h=>h) (Or.inr ⟨by rfl,rfl⟩) HS3.out ?_
    try simp only [List.setIfInBounds_toArray,List.set_cons_zero,List.set_cons_succ]
    refine takeD (i:=29) (s:=47) (v:=undef) rfl rfl (by kernel_rfl) (by kernel_rfl) (by kernel_rfl) (fun _ _ _ h=>h) (Or.inr ⟨by rfl,rfl⟩) HS3.out ?_
    try simp only [List.setIfInBounds_toArray,List.set_cons_zero,List.set_cons_succ]
    refine takeD (i:=30) (s:=48) (v:=.bool true) rfl rfl (by kernel_rfl) (by kernel_rfl) (by kernel_rfl) (fun _ _ _ h=>h) (Or.inl ⟨by rfl,fun w' hS=>by obtain ⟨s0,s1,s2,s3,s4⟩:=hS;go_simp⟩) HS3.out ?_
    try simp only [List.setIfInBounds_toArray,List.set_cons_zero,List.set_cons_succ]
    refine takeD (i:=31) (s:=49) (v:=.bool true) rfl rfl (by kernel_rfl) (by kernel_rfl) (by kernel_rfl) (fun _ _ _ h=>h) (Or.inl ⟨by rfl,fun w' hS=>by obtain ⟨s0,s1,s2,s3,s4⟩:=hS;go_simp⟩) HS3.out ?_
    try simp only [List.setIfInBounds_toArray,List.set_cons_zero,List.set_cons_succ]
    refine takeD (i:=32) (s:=50) (v:=undef) rfl rfl (by kernel_rfl) (by kernel_rfl) (by kernel_rfl) (fun _ _ _ h=>h) (Or.inr ⟨by rfl,rfl⟩) HS3.out ?_
    try simp only [List.setIfInBounds_toArray,List.set_cons_zero,List.set_cons_succ]
    refine takeD (i:=33) (s:=51) (v:=undef) rfl rfl (by kernel_rfl) (by kernel_rfl) (by kernel_rfl) (fun _ _ _ h=>h) (Or.inr ⟨by rfl,rfl⟩) HS3.out ?_
    try simp only [List.setIfInBounds_toArray,List.set_cons_zero,List.set_cons_succ]
    refine takeD (i:=34) (s:=52) (v:=undef) rfl rfl (by kernel_rfl) (by kernel_rfl) (by kernel_rfl) (fun _ _ _ h=>h) (Or.inr ⟨by rfl,rfl⟩) HS3.out ?_
    try simp only [List.setIfInBounds_toArray,List.set_cons_zero,List.set_cons_succ]
    refine takeD (i:=35) (s:=53) (v:=undef) rfl rfl (by kernel_rfl) (by kernel_rfl) (by kernel_rfl) (fun _ _ _ h=>h) (Or.inr ⟨by rfl,rfl⟩) HS3.out ?_
    try simp only [List.setIfInBounds_toArray,List.set_cons_zero,List.set_cons_succ]
    refine takeD (i:=36) (s:=54) (v:=.bool true) rfl rfl (by kernel_rfl) (by kernel_rfl) (by kernel_rfl) (fun _ _ _ h=>h) (Or.inl ⟨by rfl,fun w' hS=>by obtain ⟨s0,s1,s2,s3,s4⟩:=hS;go_simp⟩) HS3.out ?_
    try simp only [List.setIfInBounds_toArray,List.set_cons_zero,List.set_cons_succ]
    refine wpAnyH_done (by kernel_rfl) ?_ _
    have HR:Hid (rightX xs=false):=Lib.hid (HF.out (by rw [HGD.out];unfold okX;rw [no_iff HZZ.out HZ1.out,Bool.and_false,Bool.false_and]))
    go_wp2
    go_ret
    rw [HR.out]
    exact ⟨rfl,HB2.out.trans (HB3.out.mono HB2.out.size)⟩
   have HNO:Hid (nameOk X.name.data.toList=true):=Lib.hid (HZZ.out.1 hz1)
   have hzb:(z != 1)=false:=by simp [hz1]
   clear hz1 HZZ
   refine takeD (i:=3) (s:=21) (v:=.bool false) rfl rfl (by kernel_rfl) (by kernel_rfl) (by kernel_rfl) (fun _ _ _ h=>h) (Or.inl ⟨by rfl,fun w' hS=>by obtain ⟨s0,s1,s2,s3,s4⟩:=hS;go_simp⟩) HS3.out ?_
   try simp only [List.setIfInBounds_toArray,List.set_cons_zero,List.set_cons_succ]
   refine takeD (i:=4) (s:=22) (v:=.bool false) rfl rfl (by kernel_rfl) (by kernel_rfl) (by kernel_rfl) (fun _ _ _ h=>h) (Or.inl ⟨by rfl,fun w' hS=>by obtain ⟨s0,s1,s2,s3,s4⟩:=hS;go_simp⟩) HS3.out ?_
   try simp only [List.setIfInBounds_toArray,List.set_cons_zero,List.set_cons_succ]
   refine takeD (i:=5) (s:=23) (v:=.pointer (some ⟨wr.heap.size,0,none⟩)) rfl rfl (by kernel_rfl) (by kernel_rfl) (by kernel_rfl) (fun _ _ _ h=>h) (Or.inl ⟨by rfl,fun w' hS=>by obtain ⟨s0,s1,s2,s3,s4⟩:=hS;go_simp⟩) HS3.out ?_
   try simp only [List.setIfInBounds_toArray,List.set_cons_zero,List.set_cons_succ]
   refine takeD (i:=6) (s:=24) (v:=.string X.name) rfl rfl (by kernel_rfl) (by kernel_rfl) (by kernel_rfl) (fun _ _ _ h=>h) (Or.inl ⟨by rfl,fun w' hS=>by obtain ⟨s0,s1,s2,s3,s4⟩:=hS;go_simp⟩) HS3.out ?_
   try simp only [List.setIfInBounds_toArray,List.set_cons_zero,List.set_cons_succ]
   refine takeD (i:=7) (s:=25) (v:=.int .i64 X.name.size) rfl rfl (by kernel_rfl) (by kernel_rfl) (by kernel_rfl) (fun _ _ _ h=>h) (Or.inl ⟨by rfl,fun w' hS=>by obtain ⟨s0,s1,s2,s3,s4⟩:=hS;go_simp⟩) HS3.out ?_
   try simp only [List.setIfInBounds_toArray,List.set_cons_zero,List.set_cons_succ]
   by_cases h1:X.name.size≤255
   rotate_left
   ·have hsz:(255:Int) < (X.name.size:Int):=by omega
    have HN1:=Lib.hid h1
    clear h1
    refine takeD (i:=8) (s:=26) (v:=.bool true) rfl rfl (by kernel_rfl) (by kernel_rfl) (by kernel_rfl) (fun _ _ _ h=>h) (Or.inl ⟨by rfl,fun w' hS=>by obtain ⟨s0,s1,s2,s3,s4⟩:=hS;go_simp⟩) HS3.out ?_
    try simp only [List.setIfInBounds_toArray,List.set_cons_zero,List.set_cons_succ]
    refine takeD (i:=9) (s:=27) (v:=.bool true) rfl rfl (by kernel_rfl) (by kernel_rfl) (by kernel_rfl) (fun _ _ _ h=>h) (Or.inl ⟨by rfl,fun w' hS=>by obtain ⟨s0,s1,s2,s3,s4⟩:=hS;go_simp⟩) HS3.out ?_
    try simp only [List.setIfInBounds_toArray,List.set_cons_zero,List.set_cons_succ]
    refine takeD (i:=10) (s:=28) (v:=.bool true) rfl rfl (by kernel_rfl) (by kernel_rfl) (by kernel_rfl) (fun _ _ _ h=>h) (Or.inl ⟨by rfl,fun w' hS=>by obtain ⟨s0,s1,s2,s3,s4⟩:=hS;go_simp⟩) HS3.out ?_
    try simp only [List.setIfInBounds_toArray,List.set_cons_zero,List.set_cons_succ]
    refine takeD (i:=11) (s:=29) (v:=undef) rfl rfl (by kernel_rfl) (by kernel_rfl) (by kernel_rfl) (fun _ _ _ h=>h) (Or.inr ⟨by rfl,rfl⟩) HS3.out ?_
    try simp only [List.setIfInBounds_toArray,List.set_cons_zero,List.set_cons_succ]
    refine takeD (i:=12) (s:=30) (v:=undef) rfl rfl (by kernel_rfl) (by kernel_rfl) (by kernel_rfl) (fun _ _ _ h=>h) (Or.inr ⟨by rfl,rfl⟩) HS3.out ?_
    try simp only [List.setIfInBounds_toArray,List.set_cons_zero,List.set_cons_succ]
    refine takeD (i:=13) (s:=31) (v:=undef) rfl rfl (by kernel_rfl) (by kernel_rfl) (by kernel_rfl) (fun _ _ _ h=>h) (Or.inr ⟨by rfl,rfl⟩) HS3.out ?_
    try simp only [List.setIfInBounds_toArray,List.set_cons_zero,List.set_cons_succ]
    refine takeD (i:=14) (s:=32) (v:=undef) rfl rfl (by kernel_rfl) (by kernel_rfl) (by kernel_rfl) (fun _ _ _ h=>h) (Or.inr ⟨by rfl,rfl⟩) HS3.out ?_
    try simp only [List.setIfInBounds_toArray,List.set_cons_zero,List.set_cons_succ]
    refine takeD (i:=15) (s:=33) (v:=undef) rfl rfl (by kernel_rfl) (by kernel_rfl) (by kernel_rfl) (fun _ _ _ h=>h) (Or.inr ⟨by rfl,rfl⟩) HS3.out ?_
    try simp only [List.setIfInBounds_toArray,List.set_cons_zero,List.set_cons_succ]
    refine takeD (i:=16) (s:=34) (v:=undef) rfl rfl (by kernel_rfl) (by kernel_rfl) (by kernel_rfl) (fun _ _ _ h=>h) (Or.inr ⟨by rfl,rfl⟩) HS3.out ?_
    try simp only [List.setIfInBounds_toArray,List.set_cons_zero,List.set_cons_succ]
    refine takeD (i:=17) (s:=35) (v:=undef) rfl rfl (by kernel_rfl) (by kernel_rfl) (by kernel_rfl) (fun _ _ _ h=>h) (Or.inr ⟨by rfl,rfl⟩) HS3.out ?_
    try simp only [List.setIfInBounds_toArray,List.set_cons_zero,List.set_cons_succ]
    refine takeD (i:=18) (s:=36) (v:=undef) rfl rfl (by kernel_rfl) (by kernel_rfl) (by kernel_rfl) (fun _ _ _ h=>h) (Or.inr ⟨by rfl,rfl⟩) HS3.out ?_
    try simp only [List.setIfInBounds_toArray,List.set_cons_zero,List.set_cons_succ]
    refine takeD (i:=19) (s:=37) (v:=undef) rfl rfl (by kernel_rfl) (by kernel_rfl) (by kernel_rfl) (fun _ _ _ h=>h) (Or.inr ⟨by rfl,rfl⟩) HS3.out ?_
    try simp only [List.setIfInBounds_toArray,List.set_cons_zero,List.set_cons_succ]
    refine takeD (i:=20) (s:=38) (v:=undef) rfl rfl (by kernel_rfl) (by kernel_rfl) (by kernel_rfl) (fun _ _ _ h=>h) (Or.inr ⟨by rfl,rfl⟩) HS3.out ?_
    try simp only [List.setIfInBounds_toArray,List.set_cons_zero,List.set_cons_succ]
    refine takeD (i:=21) (s:=39) (v:=undef) rfl rfl (by kernel_rfl) (by kernel_rfl) (by kernel_rfl) (fun _ _ _ h=>h) (Or.inr ⟨by rfl,rfl⟩) HS3.out ?_
    try simp only [List.setIfInBounds_toArray,List.set_cons_zero,List.set_cons_succ]
    refine takeD (i:=22) (s:=40) (v:=undef) rfl rfl (by kernel_rfl) (by kernel_rfl) (by kernel_rfl) (fun _ _ _ h=>h) (Or.inr ⟨by rfl,rfl⟩) HS3.out ?_
    try simp only [List.setIfInBounds_toArray,List.set_cons_zero,List.set_cons_succ]
    refine takeD (i:=23) (s:=41) (v:=undef) rfl rfl (by kernel_rfl) (by kernel_rfl) (by kernel_rfl) (fun _ _ _ h=>h) (Or.inr ⟨by rfl,rfl⟩) HS3.out ?_
    try simp only [List.setIfInBounds_toArray,List.set_cons_zero,List.set_cons_succ]
    refine takeD (i:=24) (s:=42) (v:=.bool true) rfl rfl (by kernel_rfl) (by kernel_rfl) (by kernel_rfl) (fun _ _ _ h=>h) (Or.inl ⟨by rfl,fun w' hS=>by obtain ⟨s0,s1,s2,s3,s4⟩:=hS;go_simp⟩) HS3.out ?_
    try simp only [List.setIfInBounds_toArray,List.set_cons_zero,List.set_cons_succ]
    refine takeD (i:=25) (s:=43) (v:=.bool true) rfl rfl (by kernel_rfl) (by kernel_rfl) (by kernel_rfl) (fun _ _ _ h=>h) (Or.inl ⟨by rfl,fun w' hS=>by obtain ⟨s0,s1,s2,s3,s4⟩:=hS;go_simp⟩) HS3.out ?_
    try simp only [List.setIfInBounds_toArray,List.set_cons_zero,List.set_cons_succ]
    refine takeD (i:=26) (s:=44) (v:=undef) rfl rfl (by kernel_rfl) (by kernel_rfl) (by kernel_rfl) (fun _ _ _ h=>h) (Or.inr ⟨by rfl,rfl⟩) HS3.out ?_
    try simp only [List.setIfInBounds_toArray,List.set_cons_zero,List.set_cons_succ]
    refine takeD (i:=27) (s:=45) (v:=undef) rfl rfl (by kernel_rfl) (by kernel_rfl) (by kernel_rfl) (fun _ _ _ h=>h) (Or.inr ⟨by rfl,rfl⟩) HS3.out ?_
    try simp only [List.setIfInBounds_toArray,List.set_cons_zero,List.set_cons_succ]
    refine takeD (i:=28) (s:=46) (v:=undef) rfl rfl (by kernel_rfl) (by kernel_rfl) (by kernel_rfl) (fun _ _ _ h=>h) (Or.inr ⟨by rfl,rfl⟩) HS3.out ?_
    try simp only [List.setIfInBounds_toArray,List.set_cons_zero,List.set_cons_succ]
    refine takeD (i:=29) (s:=47) (v:=undef) rfl rfl (by kernel_rfl) (by kernel_rfl) (by kernel_rfl) (fun _ _ _ h=>h) (Or.inr ⟨by rfl,rfl⟩) HS3.out ?_
    try simp only [List.setIfInBounds_toArray,List.set_cons_zero,List.set_cons_succ]
    refine takeD (i:=30) (s:=48) (v:=.bool true) rfl rfl (by kernel_rfl) (by kernel_rfl) (by kernel_rfl) (fun _ _ _ h=>h) (Or.inl ⟨by rfl,fun w' hS=>by obtain ⟨s0,s1,s2,s3,s4⟩:=hS;go_simp⟩) HS3.out ?_
    try simp only [List.setIfInBounds_toArray,List.set_cons_zero,List.set_cons_succ]
    refine takeD (i:=31) (s:=49) (v:=.bool true) rfl rfl (by kernel_rfl) (by kernel_rfl) (by kernel_rfl) (fun _ _ _ h=>h) (Or.inl ⟨by rfl,fun w' hS=>by obtain ⟨s0,s1,s2,s3,s4⟩:=hS;go_simp⟩) HS3.out ?_
    try simp only [List.setIfInBounds_toArray,List.set_cons_zero,List.set_cons_succ]
    refine takeD (i:=32) (s:=50) (v:=undef) rfl rfl (by kernel_rfl) (by kernel_rfl) (by kernel_rfl) (fun _ _ _ h=>h) (Or.inr ⟨by rfl,rfl⟩) HS3.out ?_
    try simp only [List.setIfInBounds_toArray,List.set_cons_zero,List.set_cons_succ]
    refine takeD (i:=33) (s:=51) (v:=undef) rfl rfl (by kernel_rfl) (by kernel_rfl) (by kernel_rfl) (fun _ _ _ h=>h) (Or.inr ⟨by rfl,rfl⟩) HS3.out ?_
    try simp only [List.setIfInBounds_toArray,List.set_cons_zero,List.set_cons_succ]
    refine takeD (i:=34) (s:=52) (v:=undef) rfl rfl (by kernel_rfl) (by kernel_rfl) (by kernel_rfl) (fun _ _ _ h=>h) (Or.inr ⟨by rfl,rfl⟩) HS3.out ?_
    try simp only [List.setIfInBounds_toArray,List.set_cons_zero,List.set_cons_succ]
    refine takeD (i:=35) (s:=53) (v:=undef) rfl rfl (by kernel_rfl) (by kernel_rfl) (by kernel_rfl) (fun _ _ _ h=>h) (Or.inr ⟨by rfl,rfl⟩) HS3.out ?_
    try simp only [List.setIfInBounds_toArray,List.set_cons_zero,List.set_cons_succ]
    refine takeD (i:=36) (s:=54) (v:=.bool true) rfl rfl (by kernel_rfl) (by kernel_rfl) (by kernel_rfl) (fun _ _ _ h=>h) (Or.inl ⟨by rfl,fun w' hS=>by obtain ⟨s0,s1,s2,s3,s4⟩:=hS;go_simp⟩) HS3.out ?_
    try simp only [List.setIfInBounds_toArray,List.set_cons_zero,List.set_cons_succ]
    refine wpAnyH_done (by kernel_rfl) ?_ _
    have HR:Hid (rightX xs=false):=Lib.hid (HF.out (by rw [HGD.out];unfold okX;rw [decide_eq_false HN1.out,Bool.false_and,Bool.false_and]))
    go_wp2
    go_ret
    rw [HR.out]
    exact ⟨rfl,HB2.out.trans (HB3.out.mono HB2.out.size)⟩
   have HOK:Hid (okX X=true):=Lib.hid (by unfold okX;rw [decide_eq_true h1,HNO.out,Bool.true_and])
   have hsz:¬ (255:Int) < (X.name.size:Int):=by omega
   clear h1 HNO
   have HGX:Hid (goodX xs k=typX X):=Lib.hid (by rw [HGD.out,HOK.out,decide_eq_true HK0.out];rfl)
   refine takeD (i:=8) (s:=26) (v:=.bool false) rfl rfl (by kernel_rfl) (by kernel_rfl) (by kernel_rfl) (fun _ _ _ h=>h) (Or.inl ⟨by rfl,fun w' hS=>by obtain ⟨s0,s1,s2,s3,s4⟩:=hS;go_simp⟩) HS3.out ?_
   try simp only [List.setIfInBounds_toArray,List.set_cons_zero,List.set_cons_succ]
   refine takeD (i:=9) (s:=27) (v:=.bool false) rfl rfl (by kernel_rfl) (by kernel_rfl) (by kernel_rfl) (fun _ _ _ h=>h) (Or.inl ⟨by rfl,fun w' hS=>by obtain ⟨s0,s1,s2,s3,s4⟩:=hS;go_simp⟩) HS3.out ?_
   try simp only [List.setIfInBounds_toArray,List.set_cons_zero,List.set_cons_succ]
   refine takeD (i:=10) (s:=28) (v:=.bool false) rfl rfl (by kernel_rfl) (by kernel_rfl) (by kernel_rfl) (fun _ _ _ h=>h) (Or.inl ⟨by rfl,fun w' hS=>by obtain ⟨s0,s1,s2,s3,s4⟩:=hS;go_simp⟩) HS3.out ?_
   try simp only [List.setIfInBounds_toArray,List.set_cons_zero,List.set_cons_succ]
   refine takeD (i:=11) (s:=29) (v:=.int .i64 k) rfl rfl (by kernel_rfl) (by kernel_rfl) (by kernel_rfl) (fun _ _ _ h=>h) (Or.inl ⟨by rfl,fun w' hS=>by obtain ⟨s0,s1,s2,s3,s4⟩:=hS;go_simp⟩) HS3.out ?_
   try simp only [List.setIfInBounds_toArray,List.set_cons_zero,List.set_cons_succ]
   refine takeD (i:=12) (s:=30) (v:=.bool false) rfl rfl (by kernel_rfl) (by kernel_rfl) (by kernel_rfl) (fun _ _ _ h=>h) (Or.inl ⟨by rfl,fun w' hS=>by obtain ⟨s0,s1,s2,s3,s4⟩:=hS;go_simp;exact HK0.out⟩) HS3.out ?_
   try simp only [List.setIfInBounds_toArray,List.set_cons_zero,List.set_cons_succ]
   refine takeD (i:=13) (s:=31) (v:=.bool false) rfl rfl (by kernel_rfl) (by kernel_rfl) (by kernel_rfl) (fun _ _ _ h=>h) (Or.inl ⟨by rfl,fun w' hS=>by obtain ⟨s0,s1,s2,s3,s4⟩:=hS;go_simp⟩) HS3.out ?_
   try simp only [List.setIfInBounds_toArray,List.set_cons_zero,List.set_cons_succ]
   refine takeD (i:=14) (s:=32) (v:=undef) rfl rfl (by kernel_rfl) (by kernel_rfl) (by kernel_rfl) (fun _ _ _ h=>h) (Or.inr ⟨by rfl,rfl⟩) HS3.out ?_
   try simp only [List.setIfInBounds_toArray,List.set_cons_zero,List.set_cons_succ]
   refine takeD (i:=15) (s:=33) (v:=undef) rfl rfl (by kernel_rfl) (by kernel_rfl) (by kernel_rfl) (fun _ _ _ h=>h) (Or.inr ⟨by rfl,rfl⟩) HS3.out ?_
   try simp only [List.setIfInBounds_toArray,List.set_cons_zero,List.set_cons_succ]
   refine takeD (i:=16) (s:=34) (v:=undef) rfl rfl (by kernel_rfl) (by kernel_rfl) (by kernel_rfl) (fun _ _ _ h=>h) (Or.inr ⟨by rfl,rfl⟩) HS3.out ?_
   try simp only [List.setIfInBounds_toArray,List.set_cons_zero,List.set_cons_succ]
   refine takeD (i:=17) (s:=35) (v:=undef) rfl rfl (by kernel_rfl) (by kernel_rfl) (by kernel_rfl) (fun _ _ _ h=>h) (Or.inr ⟨by rfl,rfl⟩) HS3.out ?_
   try simp only [List.setIfInBounds_toArray,List.set_cons_zero,List.set_cons_succ]
   refine takeD (i:=18) (s:=36) (v:=undef) rfl rfl (by kernel_rfl) (by kernel_rfl) (by kernel_rfl) (fun _ _ _ h=>h) (Or.inr ⟨by rfl,rfl⟩) HS3.out ?_
   try simp only [List.setIfInBounds_toArray,List.set_cons_zero,List.set_cons_succ]
   refine takeD (i:=19) (s:=37) (v:=undef) rfl rfl (by kernel_rfl) (by kernel_rfl) (by kernel_rfl) (fun _ _ _ h=>h) (Or.inr ⟨by rfl,rfl⟩) HS3.out ?_
   try simp only [List.setIfInBounds_toArray,List.set_cons_zero,List.set_cons_succ]
   refine takeD (i:=20) (s:=38) (v:=undef) rfl rfl (by kernel_rfl) (by kernel_rfl) (by kernel_rfl) (fun _ _ _ h=>h) (Or.inr ⟨by rfl,rfl⟩) HS3.out ?_
   try simp only [List.setIfInBounds_toArray,List.set_cons_zero,List.set_cons_succ]
   refine takeD (i:=21) (s:=39) (v:=undef) rfl rfl (by kernel_rfl) (by kernel_rfl) (by kernel_rfl) (fun _ _ _ h=>h) (Or.inr ⟨by rfl,rfl⟩) HS3.out ?_
   try simp only [List.setIfInBounds_toArray,List.set_cons_zero,List.set_cons_succ]
   refine takeD (i:=22) (s:=40) (v:=undef) rfl rfl (by kernel_rfl) (by kernel_rfl) (by kernel_rfl) (fun _ _ _ h=>h) (Or.inr ⟨by rfl,rfl⟩) HS3.out ?_
   try simp only [List.setIfInBounds_toArray,List.set_cons_zero,List.set_cons_succ]
   refine takeD (i:=23) (s:=41) (v:=.bool false) rfl rfl (by kernel_rfl) (by kernel_rfl) (by kernel_rfl) (fun _ _ _ h=>h) (Or.inl ⟨by rfl,fun w' hS=>by obtain ⟨s0,s1,s2,s3,s4⟩:=hS;go_simp⟩) HS3.out ?_
   try simp only [List.setIfInBounds_toArray,List.set_cons_zero,List.set_cons_succ]
   refine takeD (i:=24) (s:=42) (v:=.bool false) rfl rfl (by kernel_rfl) (by kernel_rfl) (by kernel_rfl) (fun _ _ _ h=>h) (Or.inl ⟨by rfl,fun w' hS=>by obtain ⟨s0,s1,s2,s3,s4⟩:=hS;go_simp⟩) HS3.out ?_
   try simp only [List.setIfInBounds_toArray,List.set_cons_zero,List.set_cons_succ]
   refine takeD (i:=25) (s:=43) (v:=.bool false) rfl rfl (by kernel_rfl) (by kernel_rfl) (by kernel_rfl) (fun _ _ _ h=>h) (Or.inl ⟨by rfl,fun w' hS=>by obtain ⟨s0,s1,s2,s3,s4⟩:=hS;go_simp⟩) HS3.out ?_
   try simp only [List.setIfInBounds_toArray,List.set_cons_zero,List.set_cons_succ]
   obtain ⟨cl,hcl⟩:∃ cl,cl=closedT X.ty:=⟨_,rfl⟩
   rw [←hcl] at HCL
   have HCLE:=Lib.hid hcl
   clear hcl
   refine takeD (i:=26) (s:=44) (v:=.pointer (some ⟨wr.heap.size,1,none⟩)) rfl rfl (by kernel_rfl) (by kernel_rfl) (by kernel_rfl) (fun _ _ _ h=>h) (Or.inl ⟨by rfl,fun w' hS=>by obtain ⟨s0,s1,s2,s3,s4⟩:=hS;go_simp⟩) HS3.out ?_
   try simp only [List.setIfInBounds_toArray,List.set_cons_zero,List.set_cons_succ]
   refine takeD (i:=27) (s:=45) (v:=.agg #[.int .i64 X.ty.kind,.int .i64 X.ty.num,.string X.ty.name,.slice A' X.ty.args.length c']) rfl rfl (by kernel_rfl) (by kernel_rfl) (by kernel_rfl) (fun _ _ _ h=>h) (Or.inl ⟨by rfl,fun w' hS=>by obtain ⟨s0,s1,s2,s3,s4⟩:=hS;go_simp⟩) HS3.out ?_
   try simp only [List.setIfInBounds_toArray,List.set_cons_zero,List.set_cons_succ]
   refine wpAnyH_all (rs:=[28]) (by kernel_rfl) (by simp) ?_
   intro i hi
   simp only [List.mem_cons,List.not_mem_nil,or_false] at hi
   subst hi
   refine wpOp_ofQ rfl rfl (fun K hK=>?_)
   go_simp
   refine (HCL.out w3 HB3.out).mono ?_
   rintro e w5 ⟨rfl,hb5⟩
   have HB5:=Lib.hid (HB3.out.trans (hb5.mono HB3.out.size))
   have HS5:=Lib.hid (HSK.out w5 HB5.out)
   clear hb5
   refine hK _ _ ⟨HS5.out,?_⟩
   clear hK K
   try simp only [List.setIfInBounds_toArray,List.set_cons_zero,List.set_cons_succ]
   refine takeD (i:=29) (s:=47) (v:=.bool (!cl)) rfl rfl (by kernel_rfl) (by kernel_rfl) (by kernel_rfl) (fun _ _ _ h=>h) (Or.inl ⟨by rfl,fun w' hS=>by obtain ⟨s0,s1,s2,s3,s4⟩:=hS;go_simp⟩) HS5.out ?_
   try simp only [List.setIfInBounds_toArray,List.set_cons_zero,List.set_cons_succ]
   refine takeD (i:=30) (s:=48) (v:=.bool (!cl)) rfl rfl (by kernel_rfl) (by kernel_rfl) (by kernel_rfl) (fun _ _ _ h=>h) (Or.inl ⟨by rfl,fun w' hS=>by obtain ⟨s0,s1,s2,s3,s4⟩:=hS;go_simp⟩) HS5.out ?_
   try simp only [List.setIfInBounds_toArray,List.set_cons_zero,List.set_cons_succ]
   refine takeD (i:=31) (s:=49) (v:=.bool (!cl)) rfl rfl (by kernel_rfl) (by kernel_rfl) (by kernel_rfl) (fun _ _ _ h=>h) (Or.inl ⟨by rfl,fun w' hS=>by obtain ⟨s0,s1,s2,s3,s4⟩:=hS;go_simp⟩) HS5.out ?_
   try simp only [List.setIfInBounds_toArray,List.set_cons_zero,List.set_cons_succ]
   cases cl with
   | false =>
    refine takeD (i:=32) (s:=50) (v:=undef) rfl rfl (by kernel_rfl) (by kernel_rfl) (by kernel_rfl) (fun _ _ _ h=>h) (Or.inr ⟨by rfl,rfl⟩) HS5.out ?_
    try simp only [List.setIfInBounds_toArray,List.set_cons_zero,List.set_cons_succ]
    refine takeD (i:=33) (s:=51) (v:=undef) rfl rfl (by kernel_rfl) (by kernel_rfl) (by kernel_rfl) (fun _ _ _ h=>h) (Or.inr ⟨by rfl,rfl⟩) HS5.out ?_
    try simp only [List.setIfInBounds_toArray,List.set_cons_zero,List.set_cons_succ]
    refine takeD (i:=34) (s:=52) (v:=undef) rfl rfl (by kernel_rfl) (by kernel_rfl) (by kernel_rfl) (fun _ _ _ h=>h) (Or.inr ⟨by rfl,rfl⟩) HS5.out ?_
    try simp only [List.setIfInBounds_toArray,List.set_cons_zero,List.set_cons_succ]
    refine takeD (i:=35) (s:=53) (v:=undef) rfl rfl (by kernel_rfl) (by kernel_rfl) (by kernel_rfl) (fun _ _ _ h=>h) (Or.inr ⟨by rfl,rfl⟩) HS5.out ?_
    try simp only [List.setIfInBounds_toArray,List.set_cons_zero,List.set_cons_succ]
    refine takeD (i:=36) (s:=54) (v:=.bool true) rfl rfl (by kernel_rfl) (by kernel_rfl) (by kernel_rfl) (fun _ _ _ h=>h) (Or.inl ⟨by rfl,fun w' hS=>by obtain ⟨s0,s1,s2,s3,s4⟩:=hS;go_simp⟩) HS5.out ?_
    try simp only [List.setIfInBounds_toArray,List.set_cons_zero,List.set_cons_succ]
    refine wpAnyH_done (by kernel_rfl) ?_ _
    have HR:Hid (rightX xs=false):=Lib.hid (HF.out (by rw [HGX.out];unfold typX;rw [←HCLE.out,Bool.false_and]))
    go_wp2
    go_ret
    rw [HR.out]
    exact ⟨rfl,HB2.out.trans (HB5.out.mono HB2.out.size)⟩
   | true =>
    obtain ⟨sm,hsm⟩:∃ sm,sm=shortT X.ty:=⟨_,rfl⟩
    rw [←hsm] at HSM
    have HSME:=Lib.hid hsm
    clear hsm
    refine takeD (i:=32) (s:=50) (v:=.pointer (some ⟨wr.heap.size,1,none⟩)) rfl rfl (by kernel_rfl) (by kernel_rfl) (by kernel_rfl) (fun _ _ _ h=>h) (Or.inl ⟨by rfl,fun w' hS=>by obtain ⟨s0,s1,s2,s3,s4⟩:=hS;go_simp⟩) HS5.out ?_
    try simp only [List.setIfInBounds_toArray,List.set_cons_zero,List.set_cons_succ]
    refine takeD (i:=33) (s:=51) (v:=.agg #[.int .i64 X.ty.kind,.int .i64 X.ty.num,.string X.ty.name,.slice A' X.ty.args.length c']) rfl rfl (by kernel_rfl) (by kernel_rfl) (by kernel_rfl) (fun _ _ _ h=>h) (Or.inl ⟨by rfl,fun w' hS=>by obtain ⟨s0,s1,s2,s3,s4⟩:=hS;go_simp⟩) HS5.out ?_
    try simp only [List.setIfInBounds_toArray,List.set_cons_zero,List.set_cons_succ]
    refine wpAnyH_all (rs:=[34]) (by kernel_rfl) (by simp) ?_
    intro i hi
    simp only [List.mem_cons,List.not_mem_nil,or_false] at hi
    subst hi
    refine wpOp_ofQ rfl rfl (fun K hK=>?_)
    go_simp
    refine (HSM.out w5 HB5.out).mono ?_
    rintro e w6 ⟨rfl,hb6⟩
    have HB6:=Lib.hid (HB5.out.trans (hb6.mono HB5.out.size))
    have HS6:=Lib.hid (HSK.out w6 HB6.out)
    clear hb6
    refine hK _ _ ⟨HS6.out,?_⟩
    clear hK K
    try simp only [List.setIfInBounds_toArray,List.set_cons_zero,List.set_cons_succ]
    refine takeD (i:=35) (s:=53) (v:=.bool (!sm)) rfl rfl (by kernel_rfl) (by kernel_rfl) (by kernel_rfl) (fun _ _ _ h=>h) (Or.inl ⟨by rfl,fun w' hS=>by obtain ⟨s0,s1,s2,s3,s4⟩:=hS;go_simp⟩) HS6.out ?_
    try simp only [List.setIfInBounds_toArray,List.set_cons_zero,List.set_cons_succ]
    refine takeD (i:=36) (s:=54) (v:=.bool (!sm)) rfl rfl (by kernel_rfl) (by kernel_rfl) (by kernel_rfl) (fun _ _ _ h=>h) (Or.inl ⟨by rfl,fun w' hS=>by obtain ⟨s0,s1,s2,s3,s4⟩:=hS;go_simp⟩) HS6.out ?_
    try simp only [List.setIfInBounds_toArray,List.set_cons_zero,List.set_cons_succ]
    refine wpAnyH_done (by kernel_rfl) ?_ _
    have HB6W:=Lib.hid (HB2.out.trans (HB6.out.mono HB2.out.size))
    cases sm with
    | false =>
     have HR:Hid (rightX xs=false):=Lib.hid (HF.out (by rw [HGX.out];unfold typX;rw [←HSME.out,Bool.and_false]))
     go_wp2
     go_ret
     rw [HR.out]
     exact ⟨rfl,HB6W.out⟩
    | true =>
     have HN:=Lib.hid (HNX.out (by rw [HGX.out];unfold typX;rw [←HSME.out,←HCLE.out];rfl))
     go_wp2
     go_roundw
     case rel=>exact ⟨k+1,by omega,by go_num,HN,HB6W⟩
     case measure=>simp [RowKit.intOf];omega
  ·have hgd0:decide ((0:Int) < (k:Int))=true:=decide_eq_true (by omega)
   have hk1:(k:Int) - 1=(j:Int):=HSUB.out (by omega)
   have hjl:j < xs.length:=HJL.out (by omega)
   have hjn:((j:Nat):Int) < (xs.length:Int):=by omega
   have hkp:0 < k:=by omega
   have HK0:=Lib.hid hk0
   clear hk0
   have HSP2:=Lib.hid (HSP.out hkp)
   have HS0:=Lib.hid (And.intro (HSP2.out W2.drew HBD.out) (HSK.out W2.drew HBD.out))
   refine wp_region_held (S:=(fun w2:World=>w2.cell? ⟨b,off+j * 5,none⟩=some (.string P.name)∧w2.cell? ⟨wr.heap.size,0,none⟩=some (.string X.name)∧w2.cell? ⟨wr.heap.size,1,none⟩=some (.int .i64 X.ty.kind)∧w2.cell? ⟨wr.heap.size,2,none⟩=some (.int .i64 X.ty.num)∧w2.cell? ⟨wr.heap.size,3,none⟩=some (.string X.ty.name)∧w2.cell? ⟨wr.heap.size,4,none⟩=some (.slice A' X.ty.args.length c'))) (by kernel_rfl) ?_
   refine takeD (i:=0) (s:=18) (v:=.pointer (some ⟨wr.heap.size,0,none⟩)) rfl rfl (by kernel_rfl) (by kernel_rfl) (by kernel_rfl) (fun _ _ _ h=>h) (Or.inl ⟨by rfl,fun w' hS=>by obtain ⟨s0,s1,s2,s3,s4,s5⟩:=hS;go_simp⟩) HS0.out ?_
   try simp only [List.setIfInBounds_toArray,List.set_cons_zero,List.set_cons_succ]
   refine takeD (i:=1) (s:=19) (v:=.string X.name) rfl rfl (by kernel_rfl) (by kernel_rfl) (by kernel_rfl) (fun _ _ _ h=>h) (Or.inl ⟨by rfl,fun w' hS=>by obtain ⟨s0,s1,s2,s3,s4,s5⟩:=hS;go_simp⟩) HS0.out ?_
   try simp only [List.setIfInBounds_toArray,List.set_cons_zero,List.set_cons_succ]
   refine wpAnyH_all (rs:=[2]) (by kernel_rfl) (by simp) ?_
   intro i hi
   simp only [List.mem_cons,List.not_mem_nil,or_false] at hi
   subst hi
   refine wpOp_ofQ rfl rfl (fun K hK=>?_)
   go_simp
   refine (HKN.out W2.drew).mono ?_
   rintro e w3 ⟨z,rfl,hz,hb3⟩
   have HB3:=Lib.hid (HBD.out.trans (hb3.mono HBD.out.size))
   have HZZ:=Lib.hid hz
   have HS3:=Lib.hid (And.intro (HSP2.out w3 HB3.out) (HSK.out w3 HB3.out))
   clear hb3 hz
   refine hK _ _ ⟨HS3.out,?_⟩
   clear hK K
   try simp only [List.setIfInBounds_toArray,List.set_cons_zero,List.set_cons_succ]
   by_cases hz1:z=1
   rotate_left
   ·have hzb:(z != 1)=true:=by simp [hz1]
    have HZ1:=Lib.hid hz1
    clear hz1
    refine takeD (i:=3) (s:=21) (v:=.bool true) rfl rfl (by kernel_rfl) (by kernel_rfl) (by kernel_rfl) (fun _ _ _ h=>h) (Or.inl ⟨by rfl,fun w' hS=>by obtain ⟨s0,s1,s2,s3,s4,s5⟩:=hS;go_simp⟩) HS3.out ?_
    try simp only [List.setIfInBounds_toArray,List.set_cons_zero,List.set_cons_succ]
    refine takeD (i:=4) (s:=22) (v:=.bool true) rfl rfl (by kernel_rfl) (by kernel_rfl) (by kernel_rfl) (fun _ _ _ h=>h) (Or.inl ⟨by rfl,fun w' hS=>by obtain ⟨s0,s1,s2,s3,s4,s5⟩:=hS;go_simp⟩) HS3.out ?_
    try simp only [List.setIfInBounds_toArray,List.set_cons_zero,List.set_cons_succ]
    refine takeD (i:=5) (s:=23) (v:=undef) rfl rfl (by kernel_rfl) (by kernel_rfl) (by kernel_rfl) (fun _ _ _ h=>h) (Or.inr ⟨by rfl,rfl⟩) HS3.out ?_
    try simp only [List.setIfInBounds_toArray,List.set_cons_zero,List.set_cons_succ]
    refine takeD (i:=6) (s:=24) (v:=undef) rfl rfl (by kernel_rfl) (by kernel_rfl) (by kernel_rfl) (fun _ _ _ h=>h) (Or.inr ⟨by rfl,rfl⟩) HS3.out ?_
    try simp only [List.setIfInBounds_toArray,List.set_cons_zero,List.set_cons_succ]
    refine takeD (i:=7) (s:=25) (v:=undef) rfl rfl (by kernel_rfl) (by kernel_rfl) (by kernel_rfl) (fun _ _ _ h=>h) (Or.inr ⟨by rfl,rfl⟩) HS3.out ?_
    try simp only [List.setIfInBounds_toArray,List.set_cons_zero,List.set_cons_succ]
    refine takeD (i:=8) (s:=26) (v:=undef) rfl rfl (by kernel_rfl) (by kernel_rfl) (by kernel_rfl) (fun _ _ _ h=>h) (Or.inr ⟨by rfl,rfl⟩) HS3.out ?_
    try simp only [List.setIfInBounds_toArray,List.set_cons_zero,List.set_cons_succ]
    refine takeD (i:=9) (s:=27) (v:=.bool true) rfl rfl (by kernel_rfl) (by kernel_rfl) (by kernel_rfl) (fun _ _ _ h=>h) (Or.inl ⟨by rfl,fun w' hS=>by obtain ⟨s0,s1,s2,s3,s4,s5⟩:=hS;go_simp⟩) HS3.out ?_
    try simp only [List.setIfInBounds_toArray,List.set_cons_zero,List.set_cons_succ]
    refine takeD (i:=10) (s:=28) (v:=.bool true) rfl rfl (by kernel_rfl) (by kernel_rfl) (by kernel_rfl) (fun _ _ _ h=>h) (Or.inl ⟨by rfl,fun w' hS=>by obtain ⟨s0,s1,s2,s3,s4,s5⟩:=hS;go_simp⟩) HS3.out ?_
    try simp only [List.setIfInBounds_toArray,List.set_cons_zero,List.set_cons_succ]
    refine takeD (i:=11) (s:=29) (v:=undef) rfl rfl (by kernel_rfl) (by kernel_rfl) (by kernel_rfl) (fun _ _ _ h=>h) (Or.inr ⟨by rfl,rfl⟩) HS3.out ?_
    try simp only [List.setIfInBounds_toArray,List.set_cons_zero,List.set_cons_succ]
    refine takeD (i:=12) (s:=30) (v:=undef) rfl rfl (by kernel_rfl) (by kernel_rfl) (by kernel_rfl) (fun _ _ _ h=>h) (Or.inr ⟨by rfl,rfl⟩) HS3.out ?_
    try simp only [List.setIfInBounds_toArray,List.set_cons_zero,List.set_cons_succ]
    refine takeD (i:=13) (s:=31) (v:=undef) rfl rfl (by kernel_rfl) (by kernel_rfl) (by kernel_rfl) (fun _ _ _ h=>h) (Or.inr ⟨by rfl,rfl⟩) HS3.out ?_
    try simp only [List.setIfInBounds_toArray,List.set_cons_zero,List.set_cons_succ]
    refine takeD (i:=14) (s:=32) (v:=undef) rfl rfl (by kernel_rfl) (by kernel_rfl) (by kernel_rfl) (fun _ _ _ h=>h) (Or.inr ⟨by rfl,rfl⟩) HS3.out ?_
    try simp only [List.setIfInBounds_toArray,List.set_cons_zero,List.set_cons_succ]
    refine takeD (i:=15) (s:=33) (v:=undef) rfl rfl (by kernel_rfl) (by kernel_rfl) (by kernel_rfl) (fun _ _ _ h=>h) (Or.inr ⟨by rfl,rfl⟩) HS3.out ?_
    try simp only [List.setIfInBounds_toArray,List.set_cons_zero,List.set_cons_succ]
    refine takeD (i:=16) (s:=34) (v:=undef) rfl rfl (by kernel_rfl) (by kernel_rfl) (by kernel_rfl) (fun _ _ _ h=>h) (Or.inr ⟨by rfl,rfl⟩) HS3.out ?_
    try simp only [List.setIfInBounds_toArray,List.set_cons_zero,List.set_cons_succ]
    refine takeD (i:=17) (s:=35) (v:=undef) rfl rfl (by kernel_rfl) (by kernel_rfl) (by kernel_rfl) (fun _ _ _ h=>h) (Or.inr ⟨by rfl,rfl⟩) HS3.out ?_
    try simp only [List.setIfInBounds_toArray,List.set_cons_zero,List.set_cons_succ]
    refine takeD (i:=18) (s:=36) (v:=undef) rfl rfl (by kernel_rfl) (by kernel_rfl) (by kernel_rfl) (fun _ _ _ h=>h) (Or.inr ⟨by rfl,rfl⟩) HS3.out ?_
    try simp only [List.setIfInBounds_toArray,List.set_cons_zero,List.set_cons_succ]
    refine takeD (i:=19) (s:=37) (v:=undef) rfl rfl (by kernel_rfl) (by kernel_rfl) (by kernel_rfl) (fun _ _ _ h=>h) (Or.inr ⟨by rfl,rfl⟩) HS3.out ?_
    try simp only [List.setIfInBounds_toArray,List.set_cons_zero,List.set_cons_succ]
    refine takeD (i:=20) (s:=38) (v:=undef) rfl rfl (by kernel_rfl) (by kernel_rfl) (by kernel_rfl) (fun _ _ _ h=>h) (Or.inr ⟨by rfl,rfl⟩) HS3.out ?_
    try simp only [List.setIfInBounds_toArray,List.set_cons_zero,List.set_cons_succ]
    refine takeD (i:=21) (s:=39) (v:=undef) rfl rfl (by kernel_rfl) (by kernel_rfl) (by kernel_rfl) (fun _ _ _ h=>h) (Or.inr ⟨by rfl,rfl⟩) HS3.out ?_
    try simp only [List.setIfInBounds_toArray,List.set_cons_zero,List.set_cons_succ]
    refine takeD (i:=22) (s:=40) (v:=undef) rfl rfl (by kernel_rfl) (by kernel_rfl) (by kernel_rfl) (fun _ _ _ h=>h) (Or.inr ⟨by rfl,rfl⟩) HS3.out ?_
    try simp only [List.setIfInBounds_toArray,List.set_cons_zero,List.set_cons_succ]
    refine takeD (i:=23) (s:=41) (v:=undef) rfl rfl (by kernel_rfl) (by kernel_rfl) (by kernel_rfl) (fun _ _ _ h=>h) (Or.inr ⟨by rfl,rfl⟩) HS3.out ?_
    try simp only [List.setIfInBounds_toArray,List.set_cons_zero,List.set_cons_succ]
    refine takeD (i:=24) (s:=42) (v:=.bool true) rfl rfl (by kernel_rfl) (by kernel_rfl) (by kernel_rfl) (fun _ _ _ h=>h) (Or.inl ⟨by rfl,fun w' hS=>by obtain ⟨s0,s1,s2,s3,s4,s5⟩:=hS;go_simp⟩) HS3.out ?_
    try simp only [List.setIfInBounds_toArray,List.set_cons_zero,List.set_cons_succ]
    refine takeD (i:=25) (s:=43) (v:=.bool true) rfl rfl (by kernel_rfl) (by kernel_rfl) (by kernel_rfl) (fun _ _ _ h=>h) (Or.inl ⟨by rfl,fun w' hS=>by obtain ⟨s0,s1,s2,s3,s4,s5⟩:=hS;go_simp⟩) HS3.out ?_
    try simp only [List.setIfInBounds_toArray,List.set_cons_zero,List.set_cons_succ]
    refine takeD (i:=26) (s:=44) (v:=undef) rfl rfl (by kernel_rfl) (by kernel_rfl) (by kernel_rfl) (fun _ _ _ h=>h) (Or.inr ⟨by rfl,rfl⟩) HS3.out ?_
    try simp only [List.setIfInBounds_toArray,List.set_cons_zero,List.set_cons_succ]
    refine takeD (i:=27) (s:=45) (v:=undef) rfl rfl (by kernel_rfl) (by kernel_rfl) (by kernel_rfl) (fun _ _ _ h=>h) (Or.inr ⟨by rfl,rfl⟩) HS3.out ?_
    try simp only [List.setIfInBounds_toArray,List.set_cons_zero,List.set_cons_succ]
    refine takeD (i:=28) (s:=46) (v:=undef) rfl rfl (by kernel_rfl) (by kernel_rfl) (by kernel_rfl) (fun _ _ _ h=>h) (Or.inr ⟨by rfl,rfl⟩) HS3.out ?_
    try simp only [List.setIfInBounds_toArray,List.set_cons_zero,List.set_cons_succ]
    refine takeD (i:=29) (s:=47) (v:=undef) rfl rfl (by kernel_rfl) (by kernel_rfl) (by kernel_rfl) (fun _ _ _ h=>h) (Or.inr ⟨by rfl,rfl⟩) HS3.out ?_
    try simp only [List.setIfInBounds_toArray,List.set_cons_zero,List.set_cons_succ]
    refine takeD (i:=30) (s:=48) (v:=.bool true) rfl rfl (by kernel_rfl) (by kernel_rfl) (by kernel_rfl) (fun _ _ _ h=>h) (Or.inl ⟨by rfl,fun w' hS=>by obtain ⟨s0,s1,s2,s3,s4,s5⟩:=hS;go_simp⟩) HS3.out ?_
    try simp only [List.setIfInBounds_toArray,List.set_cons_zero,List.set_cons_succ]
    refine takeD (i:=31) (s:=49) (v:=.bool true) rfl rfl (by kernel_rfl) (by kernel_rfl) (by kernel_rfl) (fun _ _ _ h=>h) (Or.inl ⟨by rfl,fun w' hS=>by obtain ⟨s0,s1,s2,s3,s4,s5⟩:=hS;go_simp⟩) HS3.out ?_
    try simp only [List.setIfInBounds_toArray,List.set_cons_zero,List.set_cons_succ]
    refine takeD (i:=32) (s:=50) (v:=undef) rfl rfl (by kernel_rfl) (by kernel_rfl) (by kernel_rfl) (fun _ _ _ h=>h) (Or.inr ⟨by rfl,rfl⟩) HS3.out ?_
    try simp only [List.setIfInBounds_toArray,List.set_cons_zero,List.set_cons_succ]
    refine takeD (i:=33) (s:=51) (v:=undef) rfl rfl (by kernel_rfl) (by kernel_rfl) (by kernel_rfl) (fun _ _ _ h=>h) (Or.inr ⟨by rfl,rfl⟩) HS3.out ?_
    try simp only [List.setIfInBounds_toArray,List.set_cons_zero,List.set_cons_succ]
    refine takeD (i:=34) (s:=52) (v:=undef) rfl rfl (by kernel_rfl) (by kernel_rfl) (by kernel_rfl) (fun _ _ _ h=>h) (Or.inr ⟨by rfl,rfl⟩) HS3.out ?_
    try simp only [List.setIfInBounds_toArray,List.set_cons_zero,List.set_cons_succ]
    refine takeD (i:=35) (s:=53) (v:=undef) rfl rfl (by kernel_rfl) (by kernel_rfl) (by kernel_rfl) (fun _ _ _ h=>h) (Or.inr ⟨by rfl,rfl⟩) HS3.out ?_
    try simp only [List.setIfInBounds_toArray,List.set_cons_zero,List.set_cons_succ]
    refine takeD (i:=36) (s:=54) (v:=.bool true) rfl rfl (by kernel_rfl) (by kernel_rfl) (by kernel_rfl) (fun _ _ _ h=>h) (Or.inl ⟨by rfl,fun w' hS=>by obtain ⟨s0,s1,s2,s3,s4,s5⟩:=hS;go_simp⟩) HS3.out ?_
    try simp only [List.setIfInBounds_toArray,List.set_cons_zero,List.set_cons_succ]
    refine wpAnyH_done (by kernel_rfl) ?_ _
    have HR:Hid (rightX xs=false):=Lib.hid (HF.out (by rw [HGD.out];unfold okX;rw [no_iff HZZ.out HZ1.out,Bool.and_false,Bool.false_and]))
    go_wp2
    go_ret
    rw [HR.out]
    exact ⟨rfl,HB2.out.trans (HB3.out.mono HB2.out.size)⟩
   have HNO:Hid (nameOk X.name.data.toList=true):=Lib.hid (HZZ.out.1 hz1)
   have hzb:(z != 1)=false:=by simp [hz1]
   clear hz1 HZZ
   refine takeD (i:=3) (s:=21) (v:=.bool false) rfl rfl (by kernel_rfl) (by kernel_rfl) (by kernel_rfl) (fun _ _ _ h=>h) (Or.inl ⟨by rfl,fun w' hS=>by obtain ⟨s0,s1,s2,s3,s4,s5⟩:=hS;go_simp⟩) HS3.out ?_
   try simp only [List.setIfInBounds_toArray,List.set_cons_zero,List.set_cons_succ]
   refine takeD (i:=4) (s:=22) (v:=.bool false) rfl rfl (by kernel_rfl) (by kernel_rfl) (by kernel_rfl) (fun _ _ _ h=>h) (Or.inl ⟨by rfl,fun w' hS=>by obtain ⟨s0,s1,s2,s3,s4,s5⟩:=hS;go_simp⟩) HS3.out ?_
   try simp only [List.setIfInBounds_toArray,List.set_cons_zero,List.set_cons_succ]
   refine takeD (i:=5) (s:=23) (v:=.pointer (some ⟨wr.heap.size,0,none⟩)) rfl rfl (by kernel_rfl) (by kernel_rfl) (by kernel_rfl) (fun _ _ _ h=>h) (Or.inl ⟨by rfl,fun w' hS=>by obtain ⟨s0,s1,s2,s3,s4,s5⟩:=hS;go_simp⟩) HS3.out ?_
   try simp only [List.setIfInBounds_toArray,List.set_cons_zero,List.set_cons_succ]
   refine takeD (i:=6) (s:=24) (v:=.string X.name) rfl rfl (by kernel_rfl) (by kernel_rfl) (by kernel_rfl) (fun _ _ _ h=>h) (Or.inl ⟨by rfl,fun w' hS=>by obtain ⟨s0,s1,s2,s3,s4,s5⟩:=hS;go_simp⟩) HS3.out ?_
   try simp only [List.setIfInBounds_toArray,List.set_cons_zero,List.set_cons_succ]
   refine takeD (i:=7) (s:=25) (v:=.int .i64 X.name.size) rfl rfl (by kernel_rfl) (by kernel_rfl) (by kernel_rfl) (fun _ _ _ h=>h) (Or.inl ⟨by rfl,fun w' hS=>by obtain ⟨s0,s1,s2,s3,s4,s5⟩:=hS;go_simp⟩) HS3.out ?_
   try simp only [List.setIfInBounds_toArray,List.set_cons_zero,List.set_cons_succ]
   by_cases h1:X.name.size≤255
   rotate_left
   ·have hsz:(255:Int) < (X.name.size:Int):=by omega
    have HN1:=Lib.hid h1
    clear h1
    refine takeD (i:=8) (s:=26) (v:=.bool true) rfl rfl (by kernel_rfl) (by kernel_rfl) (by kernel_rfl) (fun _ _ _ h=>h) (Or.inl ⟨by rfl,fun w' hS=>by obtain ⟨s0,s1,s2,s3,s4,s5⟩:=hS;go_simp⟩) HS3.out ?_
    try simp only [List.setIfInBounds_toArray,List.set_cons_zero,List.set_cons_succ]
    refine takeD (i:=9) (s:=27) (v:=.bool true) rfl rfl (by kernel_rfl) (by kernel_rfl) (by kernel_rfl) (fun _ _ _ h=>h) (Or.inl ⟨by rfl,fun w' hS=>by obtain ⟨s0,s1,s2,s3,s4,s5⟩:=hS;go_simp⟩) HS3.out ?_
    try simp only [List.setIfInBounds_toArray,List.set_cons_zero,List.set_cons_succ]
    refine takeD (i:=10) (s:=28) (v:=.bool true) rfl rfl (by kernel_rfl) (by kernel_rfl) (by kernel_rfl) (fun _ _ _ h=>h) (Or.inl ⟨by rfl,fun w' hS=>by obtain ⟨s0,s1,s2,s3,s4,s5⟩:=hS;go_simp⟩) HS3.out ?_
    try simp only [List.setIfInBounds_toArray,List.set_cons_zero,List.set_cons_succ]
    refine takeD (i:=11) (s:=29) (v:=undef) rfl rfl (by kernel_rfl) (by kernel_rfl) (by kernel_rfl) (fun _ _ _ h=>h) (Or.inr ⟨by rfl,rfl⟩) HS3.out ?_
    try simp only [List.setIfInBounds_toArray,List.set_cons_zero,List.set_cons_succ]
    refine takeD (i:=12) (s:=30) (v:=undef) rfl rfl (by kernel_rfl) (by kernel_rfl) (by kernel_rfl) (fun _ _ _ h=>h) (Or.inr ⟨by rfl,rfl⟩) HS3.out ?_
    try simp only [List.setIfInBounds_toArray,List.set_cons_zero,List.set_cons_succ]
    refine takeD (i:=13) (s:=31) (v:=undef) rfl rfl (by kernel_rfl) (by kernel_rfl) (by kernel_rfl) (fun _ _ _ h=>h) (Or.inr ⟨by rfl,rfl⟩) HS3.out ?_
    try simp only [List.setIfInBounds_toArray,List.set_cons_zero,List.set_cons_succ]
    refine takeD (i:=14) (s:=32) (v:=undef) rfl rfl (by kernel_rfl) (by kernel_rfl) (by kernel_rfl) (fun _ _ _ h=>h) (Or.inr ⟨by rfl,rfl⟩) HS3.out ?_
    try simp only [List.setIfInBounds_toArray,List.set_cons_zero,List.set_cons_succ]
    refine takeD (i:=15) (s:=33) (v:=undef) rfl rfl (by kernel_rfl) (by kernel_rfl) (by kernel_rfl) (fun _ _ _ h=>h) (Or.inr ⟨by rfl,rfl⟩) HS3.out ?_
    try simp only [List.setIfInBounds_toArray,List.set_cons_zero,List.set_cons_succ]
    refine takeD (i:=16) (s:=34) (v:=undef) rfl rfl (by kernel_rfl) (by kernel_rfl) (by kernel_rfl) (fun _ _ _ h=>h) (Or.inr ⟨by rfl,rfl⟩) HS3.out ?_
    try simp only [List.setIfInBounds_toArray,List.set_cons_zero,List.set_cons_succ]
    refine takeD (i:=17) (s:=35) (v:=undef) rfl rfl (by kernel_rfl) (by kernel_rfl) (by kernel_rfl) (fun _ _ _ h=>h) (Or.inr ⟨by rfl,rfl⟩) HS3.out ?_
    try simp only [List.setIfInBounds_toArray,List.set_cons_zero,List.set_cons_succ]
    refine takeD (i:=18) (s:=36) (v:=undef) rfl rfl (by kernel_rfl) (by kernel_rfl) (by kernel_rfl) (fun _ _ _ h=>h) (Or.inr ⟨by rfl,rfl⟩) HS3.out ?_
    try simp only [List.setIfInBounds_toArray,List.set_cons_zero,List.set_cons_succ]
    refine takeD (i:=19) (s:=37) (v:=undef) rfl rfl (by kernel_rfl) (by kernel_rfl) (by kernel_rfl) (fun _ _ _ h=>h) (Or.inr ⟨by rfl,rfl⟩) HS3.out ?_
    try simp only [List.setIfInBounds_toArray,List.set_cons_zero,List.set_cons_succ]
    refine takeD (i:=20) (s:=38) (v:=undef) rfl rfl (by kernel_rfl) (by kernel_rfl) (by kernel_rfl) (fun _ _ _ h=>h) (Or.inr ⟨by rfl,rfl⟩) HS3.out ?_
    try simp only [List.setIfInBounds_toArray,List.set_cons_zero,List.set_cons_succ]
    refine takeD (i:=21) (s:=39) (v:=undef) rfl rfl (by kernel_rfl) (by kernel_rfl) (by kernel_rfl) (fun _ _ _ h=>h) (Or.inr ⟨by rfl,rfl⟩) HS3.out ?_
    try simp only [List.setIfInBounds_toArray,List.set_cons_zero,List.set_cons_succ]
    refine takeD (i:=22) (s:=40) (v:=undef) rfl rfl (by kernel_rfl) (by kernel_rfl) (by kernel_rfl) (fun _ _ _ h=>h) (Or.inr ⟨by rfl,rfl⟩) HS3.out ?_
    try simp only [List.setIfInBounds_toArray,List.set_cons_zero,List.set_cons_succ]
    refine takeD (i:=23) (s:=41) (v:=undef) rfl rfl (by kernel_rfl) (by kernel_rfl) (by kernel_rfl) (fun _ _ _ h=>h) (Or.inr ⟨by rfl,rfl⟩) HS3.out ?_
    try simp only [List.setIfInBounds_toArray,List.set_cons_zero,List.set_cons_succ]
    refine takeD (i:=24) (s:=42) (v:=.bool true) rfl rfl (by kernel_rfl) (by kernel_rfl) (by kernel_rfl) (fun _ _ _ h=>h) (Or.inl ⟨by rfl,fun w' hS=>by obtain ⟨s0,s1,s2,s3,s4,s5⟩:=hS;go_simp⟩) HS3.out ?_
    try simp only [List.setIfInBounds_toArray,List.set_cons_zero,List.set_cons_succ]
    refine takeD (i:=25) (s:=43) (v:=.bool true) rfl rfl (by kernel_rfl) (by kernel_rfl) (by kernel_rfl) (fun _ _ _ h=>h) (Or.inl ⟨by rfl,fun w' hS=>by obtain ⟨s0,s1,s2,s3,s4,s5⟩:=hS;go_simp⟩) HS3.out ?_
    try simp only [List.setIfInBounds_toArray,List.set_cons_zero,List.set_cons_succ]
    refine takeD (i:=26) (s:=44) (v:=undef) rfl rfl (by kernel_rfl) (by kernel_rfl) (by kernel_rfl) (fun _ _ _ h=>h) (Or.inr ⟨by rfl,rfl⟩) HS3.out ?_
    try simp only [List.setIfInBounds_toArray,List.set_cons_zero,List.set_cons_succ]
    refine takeD (i:=27) (s:=45) (v:=undef) rfl rfl (by kernel_rfl) (by kernel_rfl) (by kernel_rfl) (fun _ _ _ h=>h) (Or.inr ⟨by rfl,rfl⟩) HS3.out ?_
    try simp only [List.setIfInBounds_toArray,List.set_cons_zero,List.set_cons_succ]
    refine takeD (i:=28) (s:=46) (v:=undef) rfl rfl (by kernel_rfl) (by kernel_rfl) (by kernel_rfl) (fun _ _ _ h=>h) (Or.inr ⟨by rfl,rfl⟩) HS3.out ?_
    try simp only [List.setIfInBounds_toArray,List.set_cons_zero,List.set_cons_succ]
    refine takeD (i:=29) (s:=47) (v:=undef) rfl rfl (by kernel_rfl) (by kernel_rfl) (by kernel_rfl) (fun _ _ _ h=>h) (Or.inr ⟨by rfl,rfl⟩) HS3.out ?_
    try simp only [List.setIfInBounds_toArray,List.set_cons_zero,List.set_cons_succ]
    refine takeD (i:=30) (s:=48) (v:=.bool true) rfl rfl (by kernel_rfl) (by kernel_rfl) (by kernel_rfl) (fun _ _ _ h=>h) (Or.inl ⟨by rfl,fun w' hS=>by obtain ⟨s0,s1,s2,s3,s4,s5⟩:=hS;go_simp⟩) HS3.out ?_
    try simp only [List.setIfInBounds_toArray,List.set_cons_zero,List.set_cons_succ]
    refine takeD (i:=31) (s:=49) (v:=.bool true) rfl rfl (by kernel_rfl) (by kernel_rfl) (by kernel_rfl) (fun _ _ _ h=>h) (Or.inl ⟨by rfl,fun w' hS=>by obtain ⟨s0,s1,s2,s3,s4,s5⟩:=hS;go_simp⟩) HS3.out ?_
    try simp only [List.setIfInBounds_toArray,List.set_cons_zero,List.set_cons_succ]
    refine takeD (i:=32) (s:=50) (v:=undef) rfl rfl (by kernel_rfl) (by kernel_rfl) (by kernel_rfl) (fun _ _ _ h=>h) (Or.inr ⟨by rfl,rfl⟩) HS3.out ?_
    try simp only [List.setIfInBounds_toArray,List.set_cons_zero,List.set_cons_succ]
    refine takeD (i:=33) (s:=51) (v:=undef) rfl rfl (by kernel_rfl) (by kernel_rfl) (by kernel_rfl) (fun _ _ _ h=>h) (Or.inr ⟨by rfl,rfl⟩) HS3.out ?_
    try simp only [List.setIfInBounds_toArray,List.set_cons_zero,List.set_cons_succ]
    refine takeD (i:=34) (s:=52) (v:=undef) rfl rfl (by kernel_rfl) (by kernel_rfl) (by kernel_rfl) (fun _ _ _ h=>h) (Or.inr ⟨by rfl,rfl⟩) HS3.out ?_
    try simp only [List.setIfInBounds_toArray,List.set_cons_zero,List.set_cons_succ]
    refine takeD (i:=35) (s:=53) (v:=undef) rfl rfl (by kernel_rfl) (by kernel_rfl) (by kernel_rfl) (fun _ _ _ h=>h) (Or.inr ⟨by rfl,rfl⟩) HS3.out ?_
    try simp only [List.setIfInBounds_toArray,List.set_cons_zero,List.set_cons_succ]
    refine takeD (i:=36) (s:=54) (v:=.bool true) rfl rfl (by kernel_rfl) (by kernel_rfl) (by kernel_rfl) (fun _ _ _ h=>h) (Or.inl ⟨by rfl,fun w' hS=>by obtain ⟨s0,s1,s2,s3,s4,s5⟩:=hS;go_simp⟩) HS3.out ?_
    try simp only [List.setIfInBounds_toArray,List.set_cons_zero,List.set_cons_succ]
    refine wpAnyH_done (by kernel_rfl) ?_ _
    have HR:Hid (rightX xs=false):=Lib.hid (HF.out (by rw [HGD.out];unfold okX;rw [decide_eq_false HN1.out,Bool.false_and,Bool.false_and]))
    go_wp2
    go_ret
    rw [HR.out]
    exact ⟨rfl,HB2.out.trans (HB3.out.mono HB2.out.size)⟩
   have HOK:Hid (okX X=true):=Lib.hid (by unfold okX;rw [decide_eq_true h1,HNO.out,Bool.true_and])
   have hsz:¬ (255:Int) < (X.name.size:Int):=by omega
   clear h1 HNO
   have HGX0:Hid (goodX xs k=(ltB P.name X.name && typX X)):=Lib.hid (by rw [HGD.out,HOK.out,decide_eq_false HK0.out];rfl)
   obtain ⟨lb,hlb⟩:∃ lb,lb=ltB P.name X.name:=⟨_,rfl⟩
   have hlb2:Op.bytesLess P.name.toList X.name.toList=lb:=hlb.symm
   rw [←hlb] at HGX0
   clear hlb
   refine takeD (i:=8) (s:=26) (v:=.bool false) rfl rfl (by kernel_rfl) (by kernel_rfl) (by kernel_rfl) (fun _ _ _ h=>h) (Or.inl ⟨by rfl,fun w' hS=>by obtain ⟨s0,s1,s2,s3,s4,s5⟩:=hS;go_simp⟩) HS3.out ?_
   try simp only [List.setIfInBounds_toArray,List.set_cons_zero,List.set_cons_succ]
   refine takeD (i:=9) (s:=27) (v:=.bool false) rfl rfl (by kernel_rfl) (by kernel_rfl) (by kernel_rfl) (fun _ _ _ h=>h) (Or.inl ⟨by rfl,fun w' hS=>by obtain ⟨s0,s1,s2,s3,s4,s5⟩:=hS;go_simp⟩) HS3.out ?_
   try simp only [List.setIfInBounds_toArray,List.set_cons_zero,List.set_cons_succ]
   refine takeD (i:=10) (s:=28) (v:=.bool false) rfl rfl (by kernel_rfl) (by kernel_rfl) (by kernel_rfl) (fun _ _ _ h=>h) (Or.inl ⟨by rfl,fun w' hS=>by obtain ⟨s0,s1,s2,s3,s4,s5⟩:=hS;go_simp⟩) HS3.out ?_
   try simp only [List.setIfInBounds_toArray,List.set_cons_zero,List.set_cons_succ]
   refine takeD (i:=11) (s:=29) (v:=.int .i64 k) rfl rfl (by kernel_rfl) (by kernel_rfl) (by kernel_rfl) (fun _ _ _ h=>h) (Or.inl ⟨by rfl,fun w' hS=>by obtain ⟨s0,s1,s2,s3,s4,s5⟩:=hS;go_simp⟩) HS3.out ?_
   try simp only [List.setIfInBounds_toArray,List.set_cons_zero,List.set_cons_succ]
   refine takeD (i:=12) (s:=30) (v:=.bool true) rfl rfl (by kernel_rfl) (by kernel_rfl) (by kernel_rfl) (fun _ _ _ h=>h) (Or.inl ⟨by rfl,fun w' hS=>by obtain ⟨s0,s1,s2,s3,s4,s5⟩:=hS;go_simp⟩) HS3.out ?_
   try simp only [List.setIfInBounds_toArray,List.set_cons_zero,List.set_cons_succ]
   refine takeD (i:=13) (s:=31) (v:=.bool true) rfl rfl (by kernel_rfl) (by kernel_rfl) (by kernel_rfl) (fun _ _ _ h=>h) (Or.inl ⟨by rfl,fun w' hS=>by obtain ⟨s0,s1,s2,s3,s4,s5⟩:=hS;go_simp⟩) HS3.out ?_
   try simp only [List.setIfInBounds_toArray,List.set_cons_zero,List.set_cons_succ]
   refine takeD (i:=14) (s:=32) (v:=.slice (some ⟨b,off,none⟩) xs.length c) rfl rfl (by kernel_rfl) (by kernel_rfl) (by kernel_rfl) (fun _ _ _ h=>h) (Or.inl ⟨by rfl,fun w' hS=>by obtain ⟨s0,s1,s2,s3,s4,s5⟩:=hS;go_simp⟩) HS3.out ?_
   try simp only [List.setIfInBounds_toArray,List.set_cons_zero,List.set_cons_succ]
   refine takeD (i:=15) (s:=33) (v:=.int .i64 k) rfl rfl (by kernel_rfl) (by kernel_rfl) (by kernel_rfl) (fun _ _ _ h=>h) (Or.inl ⟨by rfl,fun w' hS=>by obtain ⟨s0,s1,s2,s3,s4,s5⟩:=hS;go_simp⟩) HS3.out ?_
   try simp only [List.setIfInBounds_toArray,List.set_cons_zero,List.set_cons_succ]
   refine takeD (i:=16) (s:=34) (v:=.int .i64 j) rfl rfl (by kernel_rfl) (by kernel_rfl) (by kernel_rfl) (fun _ _ _ h=>h) (Or.inl ⟨by rfl,fun w' hS=>by obtain ⟨s0,s1,s2,s3,s4,s5⟩:=hS;go_simp;exact wrapJ _ (by omega) (by omega)⟩) HS3.out ?_
   try simp only [List.setIfInBounds_toArray,List.set_cons_zero,List.set_cons_succ]
   refine takeD (i:=17) (s:=35) (v:=.pointer (some ⟨b,off+j * 5,none⟩)) rfl rfl (by kernel_rfl) (by kernel_rfl) (by kernel_rfl) (fun _ _ _ h=>h) (Or.inl ⟨by rfl,fun w' hS=>by obtain ⟨s0,s1,s2,s3,s4,s5⟩:=hS;go_simp⟩) HS3.out ?_
   try simp only [List.setIfInBounds_toArray,List.set_cons_zero,List.set_cons_succ]
   refine takeD (i:=18) (s:=36) (v:=.pointer (some ⟨b,off+j * 5,none⟩)) rfl rfl (by kernel_rfl) (by kernel_rfl) (by kernel_rfl) (fun _ _ _ h=>h) (Or.inl ⟨by rfl,fun w' hS=>by obtain ⟨s0,s1,s2,s3,s4,s5⟩:=hS;go_simp⟩) HS3.out ?_
   try simp only [List.setIfInBounds_toArray,List.set_cons_zero,List.set_cons_succ]
   refine takeD (i:=19) (s:=37) (v:=.string P.name) rfl rfl (by kernel_rfl) (by kernel_rfl) (by kernel_rfl) (fun _ _ _ h=>h) (Or.inl ⟨by rfl,fun w' hS=>by obtain ⟨s0,s1,s2,s3,s4,s5⟩:=hS;go_simp⟩) HS3.out ?_
   try simp only [List.setIfInBounds_toArray,List.set_cons_zero,List.set_cons_succ]
   refine takeD (i:=20) (s:=38) (v:=.pointer (some ⟨wr.heap.size,0,none⟩)) rfl rfl (by kernel_rfl) (by kernel_rfl) (by kernel_rfl) (fun _ _ _ h=>h) (Or.inl ⟨by rfl,fun w' hS=>by obtain ⟨s0,s1,s2,s3,s4,s5⟩:=hS;go_simp⟩) HS3.out ?_
   try simp only [List.setIfInBounds_toArray,List.set_cons_zero,List.set_cons_succ]
   refine takeD (i:=21) (s:=39) (v:=.string X.name) rfl rfl (by kernel_rfl) (by kernel_rfl) (by kernel_rfl) (fun _ _ _ h=>h) (Or.inl ⟨by rfl,fun w' hS=>by obtain ⟨s0,s1,s2,s3,s4,s5⟩:=hS;go_simp⟩) HS3.out ?_
   try simp only [List.setIfInBounds_toArray,List.set_cons_zero,List.set_cons_succ]
   refine takeD (i:=22) (s:=40) (v:=.bool (!lb)) rfl rfl (by kernel_rfl) (by kernel_rfl) (by kernel_rfl) (fun _ _ _ h=>h) (Or.inl ⟨by rfl,fun w' hS=>by obtain ⟨s0,s1,s2,s3,s4,s5⟩:=hS;go_simp⟩) HS3.out ?_
   try simp only [List.setIfInBounds_toArray,List.set_cons_zero,List.set_cons_succ]
   refine takeD (i:=23) (s:=41) (v:=.bool (!lb)) rfl rfl (by kernel_rfl) (by kernel_rfl) (by kernel_rfl) (fun _ _ _ h=>h) (Or.inl ⟨by rfl,fun w' hS=>by obtain ⟨s0,s1,s2,s3,s4,s5⟩:=hS;go_simp⟩) HS3.out ?_
   try simp only [List.setIfInBounds_toArray,List.set_cons_zero,List.set_cons_succ]
   refine takeD (i:=24) (s:=42) (v:=.bool (!lb)) rfl rfl (by kernel_rfl) (by kernel_rfl) (by kernel_rfl) (fun _ _ _ h=>h) (Or.inl ⟨by rfl,fun w' hS=>by obtain ⟨s0,s1,s2,s3,s4,s5⟩:=hS;go_simp⟩) HS3.out ?_
   try simp only [List.setIfInBounds_toArray,List.set_cons_zero,List.set_cons_succ]
   refine takeD (i:=25) (s:=43) (v:=.bool (!lb)) rfl rfl (by kernel_rfl) (by kernel_rfl) (by kernel_rfl) (fun _ _ _ h=>h) (Or.inl ⟨by rfl,fun w' hS=>by obtain ⟨s0,s1,s2,s3,s4,s5⟩:=hS;go_simp⟩) HS3.out ?_
   try simp only [List.setIfInBounds_toArray,List.set_cons_zero,List.set_cons_succ]
   cases lb with
   | false =>
    refine takeD (i:=26) (s:=44) (v:=undef) rfl rfl (by kernel_rfl) (by kernel_rfl) (by kernel_rfl) (fun _ _ _ h=>h) (Or.inr ⟨by rfl,rfl⟩) HS3.out ?_
    try simp only [List.setIfInBounds_toArray,List.set_cons_zero,List.set_cons_succ]
    refine takeD (i:=27) (s:=45) (v:=undef) rfl rfl (by kernel_rfl) (by kernel_rfl) (by kernel_rfl) (fun _ _ _ h=>h) (Or.inr ⟨by rfl,rfl⟩) HS3.out ?_
    try simp only [List.setIfInBounds_toArray,List.set_cons_zero,List.set_cons_succ]
    refine takeD (i:=28) (s:=46) (v:=undef) rfl rfl (by kernel_rfl) (by kernel_rfl) (by kernel_rfl) (fun _ _ _ h=>h) (Or.inr ⟨by rfl,rfl⟩) HS3.out ?_
    try simp only [List.setIfInBounds_toArray,List.set_cons_zero,List.set_cons_succ]
    refine takeD (i:=29) (s:=47) (v:=undef) rfl rfl (by kernel_rfl) (by kernel_rfl) (by kernel_rfl) (fun _ _ _ h=>h) (Or.inr ⟨by rfl,rfl⟩) HS3.out ?_
    try simp only [List.setIfInBounds_toArray,List.set_cons_zero,List.set_cons_succ]
    refine takeD (i:=30) (s:=48) (v:=.bool true) rfl rfl (by kernel_rfl) (by kernel_rfl) (by kernel_rfl) (fun _ _ _ h=>h) (Or.inl ⟨by rfl,fun w' hS=>by obtain ⟨s0,s1,s2,s3,s4,s5⟩:=hS;go_simp⟩) HS3.out ?_
    try simp only [List.setIfInBounds_toArray,List.set_cons_zero,List.set_cons_succ]
    refine takeD (i:=31) (s:=49) (v:=.bool true) rfl rfl (by kernel_rfl) (by kernel_rfl) (by kernel_rfl) (fun _ _ _ h=>h) (Or.inl ⟨by rfl,fun w' hS=>by obtain ⟨s0,s1,s2,s3,s4,s5⟩:=hS;go_simp⟩) HS3.out ?_
    try simp only [List.setIfInBounds_toArray,List.set_cons_zero,List.set_cons_succ]
    refine takeD (i:=32) (s:=50) (v:=undef) rfl rfl (by kernel_rfl) (by kernel_rfl) (by kernel_rfl) (fun _ _ _ h=>h) (Or.inr ⟨by rfl,rfl⟩) HS3.out ?_
    try simp only [List.setIfInBounds_toArray,List.set_cons_zero,List.set_cons_succ]
    refine takeD (i:=33) (s:=51) (v:=undef) rfl rfl (by kernel_rfl) (by kernel_rfl) (by kernel_rfl) (fun _ _ _ h=>h) (Or.inr ⟨by rfl,rfl⟩) HS3.out ?_
    try simp only [List.setIfInBounds_toArray,List.set_cons_zero,List.set_cons_succ]
    refine takeD (i:=34) (s:=52) (v:=undef) rfl rfl (by kernel_rfl) (by kernel_rfl) (by kernel_rfl) (fun _ _ _ h=>h) (Or.inr ⟨by rfl,rfl⟩) HS3.out ?_
    try simp only [List.setIfInBounds_toArray,List.set_cons_zero,List.set_cons_succ]
    refine takeD (i:=35) (s:=53) (v:=undef) rfl rfl (by kernel_rfl) (by kernel_rfl) (by kernel_rfl) (fun _ _ _ h=>h) (Or.inr ⟨by rfl,rfl⟩) HS3.out ?_
    try simp only [List.setIfInBounds_toArray,List.set_cons_zero,List.set_cons_succ]
    refine takeD (i:=36) (s:=54) (v:=.bool true) rfl rfl (by kernel_rfl) (by kernel_rfl) (by kernel_rfl) (fun _ _ _ h=>h) (Or.inl ⟨by rfl,fun w' hS=>by obtain ⟨s0,s1,s2,s3,s4,s5⟩:=hS;go_simp⟩) HS3.out ?_
    try simp only [List.setIfInBounds_toArray,List.set_cons_zero,List.set_cons_succ]
    refine wpAnyH_done (by kernel_rfl) ?_ _
    have HR:Hid (rightX xs=false):=Lib.hid (HF.out (by rw [HGX0.out,Bool.false_and]))
    go_wp2
    go_ret
    rw [HR.out]
    exact ⟨rfl,HB2.out.trans (HB3.out.mono HB2.out.size)⟩
   | true =>
    have HGX:Hid (goodX xs k=typX X):=Lib.hid (by rw [HGX0.out,Bool.true_and])
    obtain ⟨cl,hcl⟩:∃ cl,cl=closedT X.ty:=⟨_,rfl⟩
    rw [←hcl] at HCL
    have HCLE:=Lib.hid hcl
    clear hcl
    refine takeD (i:=26) (s:=44) (v:=.pointer (some ⟨wr.heap.size,1,none⟩)) rfl rfl (by kernel_rfl) (by kernel_rfl) (by kernel_rfl) (fun _ _ _ h=>h) (Or.inl ⟨by rfl,fun w' hS=>by obtain ⟨s0,s1,s2,s3,s4,s5⟩:=hS;go_simp⟩) HS3.out ?_
    try simp only [List.setIfInBounds_toArray,List.set_cons_zero,List.set_cons_succ]
    refine takeD (i:=27) (s:=45) (v:=.agg #[.int .i64 X.ty.kind,.int .i64 X.ty.num,.string X.ty.name,.slice A' X.ty.args.length c']) rfl rfl (by kernel_rfl) (by kernel_rfl) (by kernel_rfl) (fun _ _ _ h=>h) (Or.inl ⟨by rfl,fun w' hS=>by obtain ⟨s0,s1,s2,s3,s4,s5⟩:=hS;go_simp⟩) HS3.out ?_
    try simp only [List.setIfInBounds_toArray,List.set_cons_zero,List.set_cons_succ]
    refine wpAnyH_all (rs:=[28]) (by kernel_rfl) (by simp) ?_
    intro i hi
    simp only [List.mem_cons,List.not_mem_nil,or_false] at hi
    subst hi
    refine wpOp_ofQ rfl rfl (fun K hK=>?_)
    go_simp
    refine (HCL.out w3 HB3.out).mono ?_
    rintro e w5 ⟨rfl,hb5⟩
    have HB5:=Lib.hid (HB3.out.trans (hb5.mono HB3.out.size))
    have HS5:=Lib.hid (And.intro (HSP2.out w5 HB5.out) (HSK.out w5 HB5.out))
    clear hb5
    refine hK _ _ ⟨HS5.out,?_⟩
    clear hK K
    try simp only [List.setIfInBounds_toArray,List.set_cons_zero,List.set_cons_succ]
    refine takeD (i:=29) (s:=47) (v:=.bool (!cl)) rfl rfl (by kernel_rfl) (by kernel_rfl) (by kernel_rfl) (fun _ _ _ h=>h) (Or.inl ⟨by rfl,fun w' hS=>by obtain ⟨s0,s1,s2,s3,s4,s5⟩:=hS;go_simp⟩) HS5.out ?_
    try simp only [List.setIfInBounds_toArray,List.set_cons_zero,List.set_cons_succ]
    refine takeD (i:=30) (s:=48) (v:=.bool (!cl)) rfl rfl (by kernel_rfl) (by kernel_rfl) (by kernel_rfl) (fun _ _ _ h=>h) (Or.inl ⟨by rfl,fun w' hS=>by obtain ⟨s0,s1,s2,s3,s4,s5⟩:=hS;go_simp⟩) HS5.out ?_
    try simp only [List.setIfInBounds_toArray,List.set_cons_zero,List.set_cons_succ]
    refine takeD (i:=31) (s:=49) (v:=.bool (!cl)) rfl rfl (by kernel_rfl) (by kernel_rfl) (by kernel_rfl) (fun _ _ _ h=>h) (Or.inl ⟨by rfl,fun w' hS=>by obtain ⟨s0,s1,s2,s3,s4,s5⟩:=hS;go_simp⟩) HS5.out ?_
    try simp only [List.setIfInBounds_toArray,List.set_cons_zero,List.set_cons_succ]
    cases cl with
    | false =>
     refine takeD (i:=32) (s:=50) (v:=undef) rfl rfl (by kernel_rfl) (by kernel_rfl) (by kernel_rfl) (fun _ _ _ h=>h) (Or.inr ⟨by rfl,rfl⟩) HS5.out ?_
     try simp only [List.setIfInBounds_toArray,List.set_cons_zero,List.set_cons_succ]
     refine takeD (i:=33) (s:=51) (v:=undef) rfl rfl (by kernel_rfl) (by kernel_rfl) (by kernel_rfl) (fun _ _ _ h=>h) (Or.inr ⟨by rfl,rfl⟩) HS5.out ?_
     try simp only [List.setIfInBounds_toArray,List.set_cons_zero,List.set_cons_succ]
     refine takeD (i:=34) (s:=52) (v:=undef) rfl rfl (by kernel_rfl) (by kernel_rfl) (by kernel_rfl) (fun _ _ _ h=>h) (Or.inr ⟨by rfl,rfl⟩) HS5.out ?_
     try simp only [List.setIfInBounds_toArray,List.set_cons_zero,List.set_cons_succ]
     refine takeD (i:=35) (s:=53) (v:=undef) rfl rfl (by kernel_rfl) (by kernel_rfl) (by kernel_rfl) (fun _ _ _ h=>h) (Or.inr ⟨by rfl,rfl⟩) HS5.out ?_
     try simp only [List.setIfInBounds_toArray,List.set_cons_zero,List.set_cons_succ]
     refine takeD (i:=36) (s:=54) (v:=.bool true) rfl rfl (by kernel_rfl) (by kernel_rfl) (by kernel_rfl) (fun _ _ _ h=>h) (Or.inl ⟨by rfl,fun w' hS=>by obtain ⟨s0,s1,s2,s3,s4,s5⟩:=hS;go_simp⟩) HS5.out ?_
     try simp only [List.setIfInBounds_toArray,List.set_cons_zero,List.set_cons_succ]
     refine wpAnyH_done (by kernel_rfl) ?_ _
     have HR:Hid (rightX xs=false):=Lib.hid (HF.out (by rw [HGX.out];unfold typX;rw [←HCLE.out,Bool.false_and]))
     go_wp2
     go_ret
     rw [HR.out]
     exact ⟨rfl,HB2.out.trans (HB5.out.mono HB2.out.size)⟩
    | true =>
     obtain ⟨sm,hsm⟩:∃ sm,sm=shortT X.ty:=⟨_,rfl⟩
     rw [←hsm] at HSM
     have HSME:=Lib.hid hsm
     clear hsm
     refine takeD (i:=32) (s:=50) (v:=.pointer (some ⟨wr.heap.size,1,none⟩)) rfl rfl (by kernel_rfl) (by kernel_rfl) (by kernel_rfl) (fun _ _ _ h=>h) (Or.inl ⟨by rfl,fun w' hS=>by obtain ⟨s0,s1,s2,s3,s4,s5⟩:=hS;go_simp⟩) HS5.out ?_
     try simp only [List.setIfInBounds_toArray,List.set_cons_zero,List.set_cons_succ]
     refine takeD (i:=33) (s:=51) (v:=.agg #[.int .i64 X.ty.kind,.int .i64 X.ty.num,.string X.ty.name,.slice A' X.ty.args.length c']) rfl rfl (by kernel_rfl) (by kernel_rfl) (by kernel_rfl) (fun _ _ _ h=>h) (Or.inl ⟨by rfl,fun w' hS=>by obtain ⟨s0,s1,s2,s3,s4,s5⟩:=hS;go_simp⟩) HS5.out ?_
     try simp only [List.setIfInBounds_toArray,List.set_cons_zero,List.set_cons_succ]
     refine wpAnyH_all (rs:=[34]) (by kernel_rfl) (by simp) ?_
     intro i hi
     simp only [List.mem_cons,List.not_mem_nil,or_false] at hi
     subst hi
     refine wpOp_ofQ rfl rfl (fun K hK=>?_)
     go_simp
     refine (HSM.out w5 HB5.out).mono ?_
     rintro e w6 ⟨rfl,hb6⟩
     have HB6:=Lib.hid (HB5.out.trans (hb6.mono HB5.out.size))
     have HS6:=Lib.hid (And.intro (HSP2.out w6 HB6.out) (HSK.out w6 HB6.out))
     clear hb6
     refine hK _ _ ⟨HS6.out,?_⟩
     clear hK K
     try simp only [List.setIfInBounds_toArray,List.set_cons_zero,List.set_cons_succ]
     refine takeD (i:=35) (s:=53) (v:=.bool (!sm)) rfl rfl (by kernel_rfl) (by kernel_rfl) (by kernel_rfl) (fun _ _ _ h=>h) (Or.inl ⟨by rfl,fun w' hS=>by obtain ⟨s0,s1,s2,s3,s4,s5⟩:=hS;go_simp⟩) HS6.out ?_
     try simp only [List.setIfInBounds_toArray,List.set_cons_zero,List.set_cons_succ]
     refine takeD (i:=36) (s:=54) (v:=.bool (!sm)) rfl rfl (by kernel_rfl) (by kernel_rfl) (by kernel_rfl) (fun _ _ _ h=>h) (Or.inl ⟨by rfl,fun w' hS=>by obtain ⟨s0,s1,s2,s3,s4,s5⟩:=hS;go_simp⟩) HS6.out ?_
     try simp only [List.setIfInBounds_toArray,List.set_cons_zero,List.set_cons_succ]
     refine wpAnyH_done (by kernel_rfl) ?_ _
     have HB6W:=Lib.hid (HB2.out.trans (HB6.out.mono HB2.out.size))
     cases sm with
     | false =>
      have HR:Hid (rightX xs=false):=Lib.hid (HF.out (by rw [HGX.out];unfold typX;rw [←HSME.out,Bool.and_false]))
      go_wp2
      go_ret
      rw [HR.out]
      exact ⟨rfl,HB6W.out⟩
     | true =>
      have HN:=Lib.hid (HNX.out (by rw [HGX.out];unfold typX;rw [←HSME.out,←HCLE.out];rfl))
      go_wp2
      go_roundw
      case rel=>exact ⟨k+1,by omega,by go_num,HN,HB6W⟩
      case measure=>simp [RowKit.intOf];omega
end Go.Proofs.YtaalbcfpacpgfaaGreat
