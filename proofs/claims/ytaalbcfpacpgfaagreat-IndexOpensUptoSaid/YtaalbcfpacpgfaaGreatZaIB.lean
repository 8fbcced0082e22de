/- Merged of I2 I4 I5. -/
import Derived.BigRegion
import Derived.Test.YtaalbcfpacpgfaaGreatZaIA
import Derived.Test.YtaalbcfpacpgfaaGreatZaJE
set_option linter.unusedVariables false
set_option linter.unusedSimpArgs false
namespace Go.Proofs.YtaalbcfpacpgfaaGreat
open Go.RowKit Go.Lib Go.Vfs Go.Par Go.Typ Go.Shelf Go.Ix
set_option maxRecDepth 20000 in
set_option maxHeartbeats 4000000 in
theorem ixcloneCl_any (E:En) (hp:∀ x∈E.exs,RowOk x.ty) (v:Value) (w:World) (hX:EntAt (· < w.heap.size) w v E) (hl:E.exs.length≤1000000) :
  Calls Tryz.prog 61 #[v] w fun e w'=>∃ A c,e=.returned (enV E A c)∧ExsC (fun g=>w.heap.size≤g∧g < w'.heap.size) w' (.slice A E.exs.length c) E.exs∧Below w.heap.size w w':=by
 obtain ⟨A,c,rfl,hn,hX⟩:=hX
 obtain ⟨s,ver,xs⟩:=E
 simp only at *
 obtain ⟨A0,c0,e0,hc,hm⟩:=hX.form
 injection e0 with e1 _ e2
 subst e1 e2
 have HX:=Lib.hid hX;have HP:=Lib.hid hp
 obtain ⟨W1,hW1⟩:∃ W1,W1=(w.alloc (.cells #[.string s,.int .i64 ver,.slice A xs.length c] 55)).alloc (.cells #[.string ⟨#[]⟩,.int .i64 0,.slice none 0 0] 55):=⟨_,rfl⟩
 have hb1:Below w.heap.size w W1:=by rw [hW1];exact ((Below.refl _ _).alloc (Nat.le_refl _) _).alloc (by simp) _
 have hz1:W1.heap.size=w.heap.size+2:=by rw [hW1];simp
 have hbx:W1.heap[w.heap.size]? = some (.cells #[.string s,.int .i64 ver,.slice A xs.length c] 55 (0,0)):=by
  rw [hW1,Below.heap_alloc _ _ _ (by simp)]
  exact heap_alloc_new _ _
 have hby:W1.heap[w.heap.size+1]? = some (.cells #[.string ⟨#[]⟩,.int .i64 0,.slice none 0 0] 55 (0,0)):=by
  rw [hW1]
  have:=heap_alloc_new (w.alloc (.cells #[.string s,.int .i64 ver,.slice A xs.length c] 55)) (.cells #[.string ⟨#[]⟩,.int .i64 0,.slice none 0 0] 55)
  simpa using this
 have HB1:=Lib.hid hb1;have HZ1:=Lib.hid hz1;have HBX:=Lib.hid hbx;have HBY:=Lib.hid hby
 obtain ⟨y0,y1,y2⟩:=box3 hbx
 rw [hW1] at y0 y1 y2
 clear hX hm hp hb1 hz1 hbx hby
 unfold enV
 go_enter Tryz.func61,Tryz.ntmps61
 go_wp2
 rw [←hW1]
 clear y0 y1 y2 hW1
 go_loopw [3,9] (fun sv iv W=>∃ (k:Nat) (us:List Value),k≤xs.length∧iv=.int .i64 k∧Hid (RowK 63 5 ExCl W1.heap.size W1.heap.size W (xs.take k) sv us)∧Hid (Below W1.heap.size W1 W)) (fun _ iv _=>xs.length - (RowKit.intOf iv).toNat)
 case atStart=>exact ⟨0,[],by omega,rfl,Lib.hid (RowK.nil W1),Lib.hid (Below.refl _ _)⟩
 case round =>
  obtain ⟨k,us,hk,rfl,HR,HB⟩:=hrel
  by_cases hlt:k < xs.length
  ·have hzw:=HB.out.size
   have hz10:=HZ1.out
   obtain ⟨b,off,A',c',rfl,hb,hns,ht0,x0,x1,x2,x3,x4⟩:=(HX.out.keep (S':=(· < w.heap.size)) fun g hg=>⟨hg,(HB.out.block g (by omega)).trans (HB1.out.block g hg)⟩).arg hlt
   have ht:=ht0.sub (S':=(· < wr.heap.size)) fun g (hg:g < w.heap.size)=>by omega
   clear ht0
   obtain ⟨W2,hW2⟩:∃ W2,W2=wr.alloc (.cells #[.string xs[k].name,.int .i64 xs[k].ty.kind,.int .i64 xs[k].ty.num,.string xs[k].ty.name,.slice A' xs[k].ty.args.length c'] 63):=⟨_,rfl⟩
   have hb2:Below wr.heap.size wr W2:=by rw [hW2];exact (Below.refl _ _).alloc (Nat.le_refl _) _
   have hz2:W2.heap.size=wr.heap.size+1:=by rw [hW2];simp
   have hx2:W2.heap[wr.heap.size]? = some (.cells #[.string xs[k].name,.int .i64 xs[k].ty.kind,.int .i64 xs[k].ty.num,.string xs[k].ty.name,.slice A' xs[k].ty.args.length c'] 63 (0,0)):=by rw [hW2];exact heap_alloc_new _ _
   have hd:Below W2.heap.size W2 W2.drew:=(Below.refl W2.heap.size _).drew
   have hca:=copiedCl_any xs[k].ty _ W2.drew ((ht.blw hb2).blw hd) (HP.out xs[k] (List.getElem_mem hlt))
   have HTK:Hid (xs.take (k+1)=xs.take k ++ [xs[k]]):=Lib.hid (by rw [List.take_succ_eq_append_getElem hlt])
   have hlk:(xs.take k).length=k:=by rw [List.length_take];omega
   have HLK:=Lib.hid hlk
   have HNS:=Lib.hid hns
   have HRD:=Lib.hid (RowK.below (R:=ExCl) ExCl.keep (RowK.below (R:=ExCl) ExCl.keep HR.out hb2) hd)
   have HR2':=Lib.hid (RowK.below (R:=ExCl) ExCl.keep HR.out hb2)
   have HBD:Hid (Below W1.heap.size W1 W2.drew):=Lib.hid ((HB.out.trans (hb2.mono HB.out.size)).trans (hd.mono (by omega)))
   have hzb:W1.heap.size≤W2.heap.size:=HBD.out.size
   have HX2:=Lib.hid hx2
   have HSK:Hid (∀ W':World,W'.heap[wr.heap.size]? = W2.heap[wr.heap.size]?→W'.cell? ⟨wr.heap.size,0,none⟩=some (.string xs[k].name)∧W'.cell? ⟨wr.heap.size,1,none⟩=some (.int .i64 xs[k].ty.kind)∧W'.cell? ⟨wr.heap.size,2,none⟩=some (.int .i64 xs[k].ty.num)∧W'.cell? ⟨wr.heap.size,3,none⟩=some (.string xs[k].ty.name)∧W'.cell? ⟨wr.heap.size,4,none⟩=some (.slice A' xs[k].ty.args.length c')) :=
    Lib.hid fun W' h=>box5 (h.trans HX2.out)
   have HRLT:=Lib.hid HR.out.lt
   have HDW:Hid (Below W2.heap.size W2 W2.drew):=Lib.hid hd
   have HS0:=Lib.hid (HSK.out W2.drew rfl)
   have HZ2:=Lib.hid hz2
   have z:=box5 hx2
   rw [hW2] at z
   obtain ⟨z0,z1,z2,z3,z4⟩:=z
   clear ht hlk hd hns hx2 hb2 hz2
   generalize xs[k]=X at *
   unfold tyV at hca
   have HCA:=Lib.hid hca
   clear hca
   go_wp2_with fail
   rw [←hW2]
   clear hW2 z0 z1 z2 z3 z4
   refine wp_region_held (S:=(fun w2:World=>w2.cell? ⟨wr.heap.size,0,none⟩=some (.string X.name)∧w2.cell? ⟨wr.heap.size,1,none⟩=some (.int .i64 X.ty.kind)∧w2.cell? ⟨wr.heap.size,2,none⟩=some (.int .i64 X.ty.num)∧w2.cell? ⟨wr.heap.size,3,none⟩=some (.string X.ty.name)∧w2.cell? ⟨wr.heap.size,4,none⟩=some (.slice A' X.ty.args.length c'))) (by kernel_rfl) ?_
   refine takeD (i:=0) (s:=13) (v:=u3) rfl rfl (by kernel_rfl) (by kernel_rfl) (by kernel_rfl) (fun _ _ _ h=>h) (Or.inl ⟨by rfl,fun w' hS=>by obtain ⟨s0,s1,s2,s3,s4⟩:=hS;go_simp⟩) HS0.out ?_
   try simp only [List.setIfInBounds_toArray,List.set_cons_zero,List.set_cons_succ]
   refine takeD (i:=1) (s:=14) (v:=.pointer (some ⟨wr.heap.size,0,none⟩)) rfl rfl (by kernel_rfl) (by kernel_rfl) (by kernel_rfl) (fun _ _ _ h=>h) (Or.inl ⟨by rfl,fun w' hS=>by obtain ⟨s0,s1,s2,s3,s4⟩:=hS;go_simp⟩) HS0.out ?_
   try simp only [List.setIfInBounds_toArray,List.set_cons_zero,List.set_cons_succ]
   refine takeD (i:=2) (s:=15) (v:=.string X.name) rfl rfl (by kernel_rfl) (by kernel_rfl) (by kernel_rfl) (fun _ _ _ h=>h) (Or.inl ⟨by rfl,fun w' hS=>by obtain ⟨s0,s1,s2,s3,s4⟩:=hS;go_simp⟩) HS0.out ?_
   try simp only [List.setIfInBounds_toArray,List.set_cons_zero,List.set_cons_succ]
   refine takeD (i:=3) (s:=16) (v:=.pointer (some ⟨wr.heap.size,1,none⟩)) rfl rfl (by kernel_rfl) (by kernel_rfl) (by kernel_rfl) (fun _ _ _ h=>h) (Or.inl ⟨by rfl,fun w' hS=>by obtain ⟨s0,s1,s2,s3,s4⟩:=hS;go_simp⟩) HS0.out ?_
   try simp only [List.setIfInBounds_toArray,List.set_cons_zero,List.set_cons_succ]
   refine takeD (i:=4) (s:=17) (v:=.agg #[.int .i64 X.ty.kind,.int .i64 X.ty.num,.string X.ty.name,.slice A' X.ty.args.length c']) rfl rfl (by kernel_rfl) (by kernel_rfl) (by kernel_rfl) (fun _ _ _ h=>h) (Or.inl ⟨by rfl,fun w' hS=>by obtain ⟨s0,s1,s2,s3,s4⟩:=hS;go_simp⟩) HS0.out ?_
   try simp only [List.setIfInBounds_toArray,List.set_cons_zero,List.set_cons_succ]
   refine wpAnyH_all (rs:=[5]) (by kernel_rfl) (by simp) ?_
   intro i hi
   simp only [List.mem_cons,List.not_mem_nil,or_false] at hi
   subst hi
   refine wpOp_ofQ rfl rfl (fun K hK=>?_)
   go_simp
   refine HCA.out.mono ?_
   rintro e w2 ⟨A2,c2,rfl,hu,HB3⟩
   have hr2:=RowK.below (R:=ExCl) ExCl.keep HRD.out HB3
   have HR2:=Lib.hid hr2
   have HU:Hid (ExCl (fun g=>W2.heap.size≤g∧g < w2.heap.size) w2 (exV X A2 c2) X):=Lib.hid ⟨A2,c2,rfl,HNS.out,hu⟩
   have hown:=hr2.own
   rw [HLK.out] at hown
   obtain ⟨us',hus⟩:∃ us',us'=us.flatMap flatC:=⟨_,rfl⟩
   rw [←hus] at hown
   have hz2:W2.heap.size≤w2.heap.size:=HB3.size
   have HBW2:Hid (Below W1.heap.size W1 w2):=Lib.hid (HBD.out.trans (HB3.mono hzb))
   have HB3':Below W2.heap.size W2 w2:=HDW.out.trans HB3
   have HS2:=Lib.hid (HSK.out w2 (HB3'.block _ (by have:=HZ2.out;omega)))
   clear hr2 hu
   refine hK _ _ ⟨HS2.out,?_⟩
   clear hK K
   try simp only [List.setIfInBounds_toArray,List.set_cons_zero,List.set_cons_succ]
   refine takeD (i:=6) (s:=19) (v:=.agg #[.string X.name,.int .i64 X.ty.kind,.int .i64 X.ty.num,.string X.ty.name,.slice A2 X.ty.args.length c2]) rfl rfl (by kernel_rfl) (by kernel_rfl) (by kernel_rfl) (fun _ _ _ h=>h) (Or.inl ⟨by rfl,fun w' hS=>by obtain ⟨s0,s1,s2,s3,s4⟩:=hS;go_simp⟩) HS2.out ?_
   try simp only [List.setIfInBounds_toArray,List.set_cons_zero,List.set_cons_succ]
   refine wpAnyH_all (rs:=[7]) (by kernel_rfl) (by simp) ?_
   intro i hi
   simp only [List.mem_cons,List.not_mem_nil,or_false] at hi
   subst hi
   refine wpOp_ofQ rfl rfl (fun K hK=>?_)
   go_simp
   have HS3:=Lib.hid (HSK.out (w2.alloc (.cells #[.string X.name,.int .i64 X.ty.kind,.int .i64 X.ty.num,.string X.ty.name,.slice A2 X.ty.args.length c2] 63)) ((HB3'.alloc (by omega) _).block _ (by have:=HZ2.out;omega)))
   refine hK _ _ ⟨HS3.out,?_⟩
   clear hK K
   try simp only [List.setIfInBounds_toArray,List.set_cons_zero,List.set_cons_succ]
   refine wpAnyH_all (rs:=[8]) (by kernel_rfl) (by simp) ?_
   intro i hi
   simp only [List.mem_cons,List.not_mem_nil,or_false] at hi
   subst hi
   refine wpOp_ofQ rfl rfl (fun K hK=>?_)
   refine wp_appK _ (.tmp 13) (.tmp 20) 53 rfl W1.heap.size 63 5 exE _ k us' rfl (World.ownsRow.alloc hown _) ⟨w2.heap.size,0,none⟩ 1 1 [.string X.name,.int .i64 X.ty.kind,.int .i64 X.ty.num,.string X.ty.name,.slice A2 X.ty.args.length c2] rfl rfl (cells_new _ _ _) (one5 _ _ _ _ _ _ _) (by omega) (by simp;omega) (fun v3 w3 hown3 hg3 hat3=>?_)
   have HS4:=Lib.hid (HSK.out w3 ((hg3.block _ (by have:=HZ2.out;simp;omega) (fun e=>by have:=HRLT.out _ e.symm;omega)).trans ((HB3'.alloc (by omega) _).block _ (by have:=HZ2.out;omega))))
   refine hK _ _ ⟨HS4.out,?_⟩
   clear hK K
   try simp only [List.setIfInBounds_toArray,List.set_cons_zero,List.set_cons_succ]
   refine takeD (i:=9) (s:=3) (v:=v3) rfl rfl (by kernel_rfl) (by kernel_rfl) (by kernel_rfl) (fun _ _ _ h=>h) (Or.inl ⟨by rfl,fun w' hS=>by obtain ⟨s0,s1,s2,s3,s4⟩:=hS;go_simp⟩) HS4.out ?_
   try simp only [List.setIfInBounds_toArray,List.set_cons_zero,List.set_cons_succ]
   refine wpAnyH_done (by kernel_rfl) ?_ _
   go_wp2
   go_roundw
   case rel =>
    refine ⟨k+1,us ++ [exV X A2 c2],by omega,by go_num,Lib.hid ?_,Lib.hid ?_⟩
    ·rw [HTK.out]
     refine RowK.next (R:=ExCl) ExCl.keep HR2.out HU.out (fun g hg=>⟨by omega,hg.2,fun e=>?_⟩) rfl _ ?_ hg3 hat3
     ·have:=HRLT.out g e;have:=HZ2.out;omega
     ·rw [HLK.out,←hus];exact hown3
    ·exact below_grow HBW2.out (by omega) _ hg3 (fun g e=>(hown.lt g e).1)
   case measure=>simp [RowKit.intOf];omega
  ·have hkl:k=xs.length:=by omega
   have hr:=HR.out
   rw [hkl,List.take_length] at hr
   obtain ⟨A2,c2,rfl,hc2,hm2⟩:=hr.form
   have HE:=Lib.hid hr.exsC
   have hz1:=HZ1.out
   have hzr:=HB.out.size
   have hbx:wr.heap[w.heap.size]? = some (.cells #[.string s,.int .i64 ver,.slice A xs.length c] 55 (0,0)):=(HB.out.block _ (by omega)).trans HBX.out
   have hby:wr.heap[w.heap.size+1]? = some (.cells #[.string ⟨#[]⟩,.int .i64 0,.slice none 0 0] 55 (0,0)):=(HB.out.block _ (by omega)).trans HBY.out
   have HBXr:=Lib.hid hbx;have HBYr:=Lib.hid hby
   obtain ⟨x0,x1,x2⟩:=box3 hbx
   obtain ⟨q0,q1,q2⟩:=box3_frozen hbx
   obtain ⟨r0,r1,r2⟩:=box3 hby
   obtain ⟨s0,s1,s2⟩:=box3_frozen hby
   clear hr hbx hby
   go_wp2
   obtain ⟨Wf,hWf⟩:∃ Wf,Wf=((((wr.setCell ⟨w.heap.size,2,none⟩ (.slice A2 xs.length c2)).setCell ⟨w.heap.size+1,0,none⟩ (.string s)).setCell ⟨w.heap.size+1,1,none⟩ (.int .i64 ver)).setCell ⟨w.heap.size+1,2,none⟩ (.slice A2 xs.length c2)):=⟨_,rfl⟩
   have hkp:Kept (fun g=>g=w.heap.size∨g=w.heap.size+1) wr Wf:=by
    rw [hWf]
    exact kept3 ((Kept.refl _ _).setCell (p:=⟨w.heap.size,2,none⟩) (.inl (.inl rfl)) _) (.inl (.inr rfl)) _ _ _
   have hbf:Wf.heap[w.heap.size+1]? = some (.cells #[.string s,.int .i64 ver,.slice A2 xs.length c2] 55 (0,0)):=by
    rw [hWf]
    refine put3 (u0:=.string ⟨#[]⟩) (u1:=.int .i64 0) (u2:=.slice none 0 0) _ _ _ ?_
    rw [Below.heap_setCell _ _ _ _ (by simp)]
    exact HBYr.out
   rw [←hWf]
   obtain ⟨f0,f1,f2⟩:=box3 hbf
   have hzf:=hkp.size
   refine bodyPost_ret (v:=.agg #[.string s,.int .i64 ver,.slice A2 xs.length c2]) (by simp [results,Tryz.results61,go_sem,f0,f1,f2]) rfl ?_
   refine ⟨A2,c2,rfl,ExsC.keep HE.out fun g hg=>⟨by omega,hkp.block g hg.2 (by omega)⟩,?_⟩
   exact (HB1.out.trans (HB.out.mono (by omega))).trans (hkp.below (by omega) (fun g hg=>by omega))
theorem ixclone_any (E:En) (hp:∀ x∈E.exs,RowOk x.ty) (v:Value) (w:World) (hX:EntAt (· < w.heap.size) w v E) (hl:E.exs.length≤1000000) :
  Calls Tryz.prog 61 #[v] w fun e w'=>∃ A c,e=.returned (enV E A c)∧ExsAt (fun g=>w.heap.size≤g∧g < w'.heap.size) w' (.slice A E.exs.length c) E.exs∧Below w.heap.size w w' :=
 (ixcloneCl_any E hp v w hX hl).mono (by rintro e w' ⟨A,c,rfl,h,hb⟩;exact ⟨A,c,rfl,ExsC.at_ h,hb⟩)
theorem or_i64X (i x y:Nat) (hi:i < 32) (hx:x % 2 ^ i=0) (hy:y < 2 ^ i) (hl:x < 4294967296):bits .or .i64 (x:Int) (y:Int)=((x+y:Nat):Int):=by
 have h32:(2:Nat) ^ i≤2 ^ 32:=Nat.pow_le_pow_right (by omega) (by omega)
 have hk:∀ n:Int,0≤n→n < 2 ^ 32→IntKind.i64.wrap n=n:=fun n h0 h1=>by rw [IntKind.wrap_i64];omega
 rw [(bits_nat .i64 32 (by decide) hk x y (by omega) (by omega)).2,nat_join i x y hx hy]
theorem or4X (x0 x1 x2 x3:Nat) (h0:x0 < 256) (h1:x1 < 256) (h2:x2 < 256) (h3:x3 < 256) :
  bits .or .i64 (bits .or .i64 (bits .or .i64 ((x0:Int) * 16777216) ((x1:Int) * 65536)) ((x2:Int) * 256)) (x3:Int)=((x0 * 16777216+x1 * 65536+x2 * 256+x3:Nat):Int):=by
 rw [show (x0:Int) * 16777216=((x0 * 16777216:Nat):Int) by omega,show (x1:Int) * 65536=((x1 * 65536:Nat):Int) by omega,show (x2:Int) * 256=((x2 * 256:Nat):Int) by omega]
 rw [or_i64X 24 _ _ (by omega) (by omega) (by omega) (by omega),or_i64X 16 _ _ (by omega) (by omega) (by omega) (by omega),or_i64X 8 _ _ (by omega) (by omega) (by omega) (by omega)]
theorem byte_le (z:Nat) (h:z < 256):(z:Int)≤255:=by omega
theorem n4_lt (x0 x1 x2 x3:Nat) (h0:x0 < 256) (h1:x1 < 256) (h2:x2 < 256) (h3:x3 < 256):x0 * 16777216+x1 * 65536+x2 * 256+x3 < 4294967296:=by omega
theorem numB4 (l:List UInt8) (h:4≤l.length):numB (l.take 4)=(l.getD 0 0).toNat * 16777216+(l.getD 1 0).toNat * 65536+(l.getD 2 0).toNat * 256+(l.getD 3 0).toNat:=by
 match l,h with
 | a :: b :: c :: d :: _,_ =>
  simp [numB]
  omega
def RdPost20 (L:List UInt8) (w:World) (e:Ending) (w':World):Prop :=
 Below w.heap.size w w'∧∃ (s:ByteArray) (n:Int) (A:Option Addr) (m c:Nat) (there ok:Bool),e=.returned (.tuple #[.agg #[.string s,.int .i64 n,.slice A m c],.bool there,.bool ok])∧(readE L=none→ok=false) ∧
  ∀ E t,readE L=some (E,t)→ok=true∧there=t∧EntAt (fun g=>w.heap.size≤g∧g < w'.heap.size) w' (.agg #[.string s,.int .i64 n,.slice A m c]) E
theorem rd_none {L:List UInt8} {w w':World} {s:ByteArray} {n:Int} {A:Option Addr} {m c:Nat} {there:Bool} (h:readE L=none) (hb:Below w.heap.size w w'):RdPost20 L w (.returned (.tuple #[.agg #[.string s,.int .i64 n,.slice A m c],.bool there,.bool false])) w' :=
 ⟨hb,s,n,A,m,c,there,false,rfl,fun _=>rfl,fun E t h2=>by rw [h] at h2;cases h2⟩
theorem box_back {W:World} {r:Nat} {u0 u1 u2:Value} {w:World} (v0 v1 v2:Value) (h:W.heap[r]? = some (.cells #[u0,u1,u2] 55 (0,0))) (hb:Below r w W) :
  ∃ Wf,Wf=(((W.setCell ⟨r,0,none⟩ v0).setCell ⟨r,1,none⟩ v1).setCell ⟨r,2,none⟩ v2)∧Wf.heap[r]? = some (.cells #[v0,v1,v2] 55 (0,0))∧Below r w Wf∧Kept (· = r) W Wf:=by
 have hk:=kept3 (F:=(· = r)) (Kept.refl _ W) (.inl rfl) v0 v1 v2
 exact ⟨_,rfl,put3 v0 v1 v2 h,hb.trans (hk.below (by have:=lt_blk h;omega) (fun k hk=>by omega)),hk⟩
set_option maxRecDepth 20000 in
set_option maxHeartbeats 4000000 in
theorem read_any20 (L:List UInt8) (v:Value) (w:World) (hsg:Seg w w.heap.size v (byteCells L)):Calls Tryz.prog 55 #[v] w (RdPost20 L w):=by
 obtain ⟨P,hP⟩:∃ P,P=RdPost20 L w:=⟨_,rfl⟩
 have HPO:=Lib.hid hP
 rw [←hP]
 clear hP
 obtain ⟨A,c,rfl,hc,hm,hat⟩:=hsg.open_bytes
 obtain ⟨W1,hW1⟩:∃ W1,W1=w.alloc (.cells #[.string ⟨#[]⟩,.int .i64 0,.slice none 0 0] 55):=⟨_,rfl⟩
 have hb1:Below w.heap.size w W1:=by rw [hW1];exact (Below.refl _ _).alloc (Nat.le_refl _) _
 have hz1:W1.heap.size=w.heap.size+1:=by rw [hW1];simp
 have hbx:W1.heap[w.heap.size]? = some (.cells #[.string ⟨#[]⟩,.int .i64 0,.slice none 0 0] 55 (0,0)):=by
  rw [hW1];exact heap_alloc_new _ _
 have hat1:At W1 w.heap.size A L.length (fun i=>.int .u8 (L.getD i 0).toNat):=hat.below hb1
 have hsg1:=hsg.below hb1
 have HB1:=Lib.hid hb1;have HZ1:=Lib.hid hz1;have HBX:=Lib.hid hbx;have HAT:=Lib.hid hat1;have HSG:=Lib.hid hsg1
 have hl64:L.length≤9223372036854775807:=by omega
 clear hsg hat hb1 hat1 hsg1
 by_cases h2:L.length < 2
 ·have g2:(L.length:Int) < 2:=by omega
  have HRN:Hid (readE L=none):=Lib.hid (by unfold readE;rw [if_pos (.inl h2)])
  obtain ⟨q0,q1,q2⟩:=box3_frozen hbx
  obtain ⟨y0,y1,y2⟩:=box3 hbx
  have HY:=Lib.hid (box3 hbx)
  rw [hW1] at q0 q1 q2 y0 y1 y2
  clear hbx hz1
  go_enter Tryz.func55,Tryz.ntmps55
  go_wp2
  rw [←hW1]
  obtain ⟨f0,f1,f2⟩:=HY.out
  refine bodyPost_ret (v:=.tuple #[.agg #[.string ⟨#[]⟩,.int .i64 0,.slice none 0 0],.bool false,.bool false]) (by simp [results,Tryz.results55,go_sem,f0,f1,f2]) rfl ?_
  rw [HPO.out]
  exact rd_none HRN.out HB1.out
 have h2':2≤L.length:=by omega
 obtain ⟨b,off,x0,rfl,hb,hc0,hx0,Hx0⟩:=HAT.out.byte (show 0 < L.length by omega)
 obtain ⟨_,_,x1,e1,-,hc1,hx1,Hx1⟩:=HAT.out.byte (show 1 < L.length by omega)
 cases e1
 simp only [Nat.add_zero] at hc0
 have g2:¬ (L.length:Int) < 2:=by omega
 have gi:1 < L.length:=by omega
 by_cases hn:L.length - 2 < x1
 ·have g3:(L.length:Int) - 2 < (x1:Int):=by omega
  have HRN:Hid (readE L=none):=Lib.hid (by unfold readE;rw [if_pos (.inr (by rw [Hx1.out];exact hn))])
  obtain ⟨q0,q1,q2⟩:=box3_frozen hbx
  obtain ⟨y0,y1,y2⟩:=box3 hbx
  have HY:=Lib.hid (box3 hbx)
  rw [hW1] at q0 q1 q2 y0 y1 y2 hc0 hc1
  clear hbx hz1
  go_enter Tryz.func55,Tryz.ntmps55
  go_wp2
  rw [←hW1]
  obtain ⟨f0,f1,f2⟩:=HY.out
  refine bodyPost_ret (v:=.tuple #[.agg #[.string ⟨#[]⟩,.int .i64 0,.slice none 0 0],.bool false,.bool false]) (by simp [results,Tryz.results55,go_sem,f0,f1,f2]) rfl ?_
  rw [HPO.out]
  exact rd_none HRN.out HB1.out
 have hn':2+x1≤L.length:=by omega
 have g3:¬ (L.length:Int) - 2 < (x1:Int):=by omega
 obtain ⟨hc3,A3,c3,hsl3,hsg3⟩:=seg_sub HSG.out 2 (2+x1) (by omega) hn'
 obtain ⟨A4,c4,hsl4,hsg4⟩:=seg_drop HSG.out (2+x1) hn'
 rw [Nat.add_sub_cancel_left] at hsl3 hsg3
 have r3:∀ w',(Instr.slice 24 (.slice (some ⟨b,off,none⟩) L.length c) (some (.int .i64 2)) (some (.int .i64 (2+(x1:Int)))) none).run Tryz.prog w'=.ok (.slice A3 x1 c3) w':=fun w'=>by
  have:=slice_lhB (some ⟨b,off,none⟩) L.length c 2 (2+x1) w' (by omega) hc3
  rw [hsl3] at this
  exact this
 have r4:∀ w',(Instr.slice 24 (.slice (some ⟨b,off,none⟩) L.length c) (some (.int .i64 (2+(x1:Int)))) none none).run Tryz.prog w'=.ok (.slice A4 (L.length - (2+x1)) c4) w':=fun w'=>by
  have:=slice_from (some ⟨b,off,none⟩) L.length c (2+x1) w' hn'
  rw [hsl4] at this
  exact this
 have k3:∀ W',Below w.heap.size W1 W'→(convert 24 9 (.slice A3 x1 c3)).run Tryz.prog W'=.ok (.string ⟨((L.drop 2).take x1).toArray⟩) W':=fun W' hb=>conv_segB (hsg3.below hb)
 obtain ⟨U,hU⟩:∃ U:ByteArray,U=⟨((L.drop 2).take x1).toArray⟩:=⟨_,rfl⟩
 have hUs:U.size=x1:=by
  rw [hU]
  show ((L.drop 2).take x1).toArray.size=_
  simp only [List.size_toArray,List.length_take,List.length_drop];omega
 rw [←hU] at k3
 have k3':=k3 W1 (Below.refl _ _)
 obtain ⟨M,hM⟩:∃ M,M=L.length - (2+x1):=⟨_,rfl⟩
 rw [←hM] at r4
 have HRU:Hid (∀ W,Calls Tryz.prog 74 #[.string U] W fun e w'=>e=.returned (.bool (uriOk U))∧w'=W):=Lib.hid fun W=>rightURI_any U (by omega) W
 obtain ⟨W2,hW2⟩:∃ W2,W2=w.alloc (.cells #[.string U,.int .i64 0,.slice none 0 0] 55):=⟨_,rfl⟩
 have hbx2:W2.heap[w.heap.size]? = some (.cells #[.string U,.int .i64 0,.slice none 0 0] 55 (0,0)):=by rw [hW2];exact heap_alloc_new _ _
 have hb2:Below w.heap.size w W2:=by rw [hW2];exact (Below.refl _ _).alloc (Nat.le_refl _) _
 have hk2:∀ k,k < w.heap.size→W2.heap[k]? = W1.heap[k]?:=fun k hk=>(hb2.block k hk).trans (HB1.out.block k hk).symm
 have hc02:=(World.cell?_of_block (a:=⟨b,off,none⟩) (hk2 b hb)).trans hc0
 have hc12:=(World.cell?_of_block (a:=⟨b,off+1,none⟩) (hk2 b hb)).trans hc1
 have HB2:=Lib.hid hb2;have HBX2:=Lib.hid hbx2
 have HSG4:=Lib.hid (hsg4.keep (w':=W2) fun b o hb=>World.cell?_of_block (a:=⟨b,o,none⟩) (hk2 b hb))
 have hx1':(x1:Int)≤255:=by omega
 have HN:=Lib.hid hn'
 have HUU:=Lib.hid hU;have HMM:=Lib.hid hM;have HUS:=Lib.hid hUs
 have HZ2:Hid (W2.heap.size=w.heap.size+1):=Lib.hid (by rw [hW2];simp)
 obtain ⟨y0,y1,y2⟩:=box3 HBX.out
 obtain ⟨q0,q1,q2⟩:=box3_frozen HBX.out
 rw [hW1] at hc0 hc1 k3' y0 y1 y2 q0 q1 q2
 rw [hW2] at hc02 hc12
 clear hbx hsg3 hsg4 hsl3 hsl4 hk2 hb2 hbx2 hU hM hUs k3 hn hc3 hx0 hx1 hc hm h2 h2' hb hn' hW1 hz1
 go_enter Tryz.func55,Tryz.ntmps55
 go_wp2_with fail
 rw [←hW2] at hc02 hc12 ⊢
 clear hW2 hc0 hc1 k3' y0 y1 y2 q0 q1 q2 r3
 refine (HRU.out W2).mono ?_
 rintro e w2 ⟨rfl,rfl⟩
 obtain ⟨y0,y1,y2⟩:=box3 HBX2.out
 obtain ⟨q0,q1,q2⟩:=box3_frozen HBX2.out
 by_cases hu:uriOk U=true
 rotate_left
 ·have hu':uriOk U=false:=by simpa using hu
  have HRN:Hid (readE L=none):=Lib.hid (by
   unfold uriOk at hu'
   rw [HUS.out] at hu'
   have:=of_decide_eq_false hu'
   unfold readE;rw [Hx1.out,if_neg (by have:=HN.out;omega),if_pos this])
  obtain ⟨Wf,hWf,hbf,hblf,-⟩:=box_back (.string ⟨#[]⟩) (.int .i64 0) (.slice none 0 0) HBX2.out HB2.out
  obtain ⟨f0,f1,f2⟩:=box3 hbf
  rw [hu']
  clear hu hu'
  go_wp2
  rw [←hWf]
  refine bodyPost_ret (v:=.tuple #[.agg #[.string ⟨#[]⟩,.int .i64 0,.slice none 0 0],.bool false,.bool false]) (by simp [results,Tryz.results55,go_sem,f0,f1,f2]) rfl ?_
  rw [HPO.out]
  exact rd_none HRN.out hblf
 have huu:=hu
 unfold uriOk at huu
 rw [HUS.out] at huu
 have HUB:=Lib.hid (of_decide_eq_true huu)
 have HPRE:Hid (readE L=tailE U x0 (L.drop (2+x1))):=Lib.hid (by
  unfold readE
  rw [Hx1.out,if_neg (by have:=HN.out;omega),if_neg (fun hn=>hn HUB.out),HUU.out,Hx0.out])
 obtain ⟨R,hR⟩:∃ R,R=L.drop (2+x1):=⟨_,rfl⟩
 have hRl:R.length=M:=by rw [hR,HMM.out,List.length_drop]
 have hsgR:Seg w2 w.heap.size (.slice A4 R.length c4) (byteCells R):=by rw [hRl,HMM.out,hR];exact HSG4.out
 rw [←hR] at HPRE
 rw [hu]
 clear hu huu
 by_cases hx2:x0=2
 ·subst hx2
  have HT:Hid (readE L=if R.length=0 then some (⟨U,0,[]⟩,false) else none):=Lib.hid (by rw [HPRE.out];rfl)
  obtain ⟨Wf,hWf,hbf,hblf,-⟩:=box_back (.string U) (.int .i64 0) (.slice none 0 0) HBX2.out HB2.out
  obtain ⟨f0,f1,f2⟩:=box3 hbf
  have HE:Hid (∀ ok:Bool,ok=decide (M=0)→P (.returned (.tuple #[.agg #[.string U,.int .i64 0,.slice none 0 0],.bool false,.bool ok])) Wf):=Lib.hid fun ok hok=>by
   rw [HPO.out]
   by_cases hM0:M=0
   ·rw [if_pos (by omega)] at HT
    refine ⟨hblf,_,_,_,_,_,_,_,rfl,fun h=>(by rw [HT.out] at h;cases h),fun E t h=>?_⟩
    rw [HT.out] at h
    simp only [Option.some.injEq,Prod.mk.injEq] at h
    obtain ⟨rfl,rfl⟩:=h
    exact ⟨by rw [hok,decide_eq_true hM0],rfl,none,0,rfl,by rw [HUS.out];omega,ExsAt.nil _ _ _ _ (Nat.zero_le _)⟩
   ·rw [if_neg (by omega)] at HT
    rw [hok,decide_eq_false hM0]
    exact rd_none HT.out hblf
  clear HPRE
  go_wp2
  rw [←hWf]
  refine bodyPost_ret (v:=.tuple #[.agg #[.string U,.int .i64 0,.slice none 0 0],.bool false,.bool ((M:Int) == 0)]) (by simp [results,Tryz.results55,go_sem,f0,f1,f2]) rfl ?_
  refine HE.out _ ?_
  by_cases h:M=0
  ·subst h;rfl
  ·rw [decide_eq_false h,beq_eq_false_iff_ne];omega
 have hx2':((x0:Int) == 2)=false:=by rw [beq_eq_false_iff_ne];omega
 obtain ⟨Wf,hWf,hbf,hblf,hkf⟩:=box_back (.string ⟨#[]⟩) (.int .i64 0) (.slice none 0 0) HBX2.out HB2.out
 by_cases hx1:x0=1
 rotate_left
 ·have hx1':((x0:Int) == 1)=false:=by rw [beq_eq_false_iff_ne];omega
  have HT0:Hid (readE L=none):=Lib.hid (by rw [HPRE.out];exact tailE_oth hx2 hx1)
  obtain ⟨f0,f1,f2⟩:=box3 hbf
  clear HPRE
  go_wp2
  rw [←hWf]
  refine bodyPost_ret (v:=.tuple #[.agg #[.string ⟨#[]⟩,.int .i64 0,.slice none 0 0],.bool false,.bool false]) (by simp [results,Tryz.results55,go_sem,f0,f1,f2]) rfl ?_
  rw [HPO.out]
  exact rd_none HT0.out hblf
 subst hx1
 by_cases hM4:M < 4
 ·have hM4':(M:Int) < 4:=by omega
  have HT0:Hid (readE L=none):=Lib.hid (by rw [HPRE.out];exact tailE_short (by omega))
  obtain ⟨f0,f1,f2⟩:=box3 hbf
  clear HPRE
  go_wp2
  rw [←hWf]
  refine bodyPost_ret (v:=.tuple #[.agg #[.string ⟨#[]⟩,.int .i64 0,.slice none 0 0],.bool false,.bool false]) (by simp [results,Tryz.results55,go_sem,f0,f1,f2]) rfl ?_
  rw [HPO.out]
  exact rd_none HT0.out hblf
 have hR4:¬ R.length < 4:=by omega
 have hM4':¬ (M:Int) < 4:=by omega
 obtain ⟨A5,c5,hsl5,hsg5⟩:=seg_drop hsgR 4 (by omega)
 have r5:∀ w',(Instr.slice 24 (.slice A4 M c4) (some (.int .i64 4)) none none).run Tryz.prog w'=.ok (.slice A5 (M - 4) c5) w':=fun w'=>by
  have:=slice_from A4 R.length c4 4 w' (by omega)
  rw [hsl5,hRl] at this
  exact this
 obtain ⟨A4',c4',eA,_,_,hatR⟩:=hsgR.open_bytes
 injection eA with eA1 _ eA2
 subst eA1 eA2
 obtain ⟨b4,o4,z0,hA4,hb4,hd0,hz0,Hz0⟩:=hatR.byte (show 0 < R.length by omega)
 subst hA4
 obtain ⟨_,_,z1,e1,-,hd1,hz1,Hz1⟩:=hatR.byte (show 1 < R.length by omega)
 cases e1
 obtain ⟨_,_,z2,e1,-,hd2,hz2,Hz2⟩:=hatR.byte (show 2 < R.length by omega)
 cases e1
 obtain ⟨_,_,z3,e1,-,hd3,hz3,Hz3⟩:=hatR.byte (show 3 < R.length by omega)
 cases e1
 simp only [Nat.add_zero] at hd0
 have hnum:numB (R.take 4)=z0 * 16777216+z1 * 65536+z2 * 256+z3:=by rw [numB4 R (by omega),Hz0.out,Hz1.out,Hz2.out,Hz3.out]
 obtain ⟨N,hN⟩:∃ N:Nat,N=z0 * 16777216+z1 * 65536+z2 * 256+z3:=⟨_,rfl⟩
 have hor:=or4X z0 z1 z2 z3 hz0 hz1 hz2 hz3
 rw [←hN] at hor hnum
 have HNU:=Lib.hid hnum
 have hNl:N < 4294967296:=by rw [hN];exact n4_lt z0 z1 z2 z3 hz0 hz1 hz2 hz3
 clear hN
 have gg0:0 < M:=by omega
 have gg1:1 < M:=by omega
 have gg2:2 < M:=by omega
 have gg3:3 < M:=by omega
 have hs0:=byte_le z0 hz0
 have hs1:=byte_le z1 hz1
 have hs2:=byte_le z2 hz2
 have hs3:=byte_le z3 hz3
 have HSG5:=Lib.hid hsg5
 have HR4:=Lib.hid hR4
 have HRL:=Lib.hid hRl
 clear hatR hsgR hsl5 hsg5 hnum hWf hbf hblf hkf hR4 hRl hR hz0 hz1 hz2 hz3
 go_wp2_with fail
 go_region
 obtain ⟨W5,hW5⟩:∃ W5,W5=(w2.setCell ⟨w.heap.size,1,none⟩ (.int .i64 (N:Int))).drew:=⟨_,rfl⟩
 have hbx5:W5.heap[w.heap.size]? = some (.cells #[.string U,.int .i64 (N:Int),.slice none 0 0] 55 (0,0)):=by
  rw [hW5]
  have:=cells_put HBX2.out 1 (.int .i64 (N:Int))
  show (w2.setCell ⟨w.heap.size,1,none⟩ (.int .i64 (N:Int))).heap[w.heap.size]? = _
  simpa using this
 have hk5:Kept (· = w.heap.size) w2 W5:=by rw [hW5];exact ((Kept.refl (· = w.heap.size) _).setCell (p:=⟨w.heap.size,1,none⟩) (.inl rfl) _).drew
 have hz2:=HZ2.out
 have hb5:Below w.heap.size w W5:=HB2.out.trans (hk5.below (by omega) (fun k hk=>by omega))
 have hz5:W5.heap.size=w.heap.size+1:=by rw [hW5];show (w2.setCell _ _).heap.size=_;simpa [World.setCell] using hz2
 have hsgD:Seg W5 W5.heap.size (.slice A5 (R.length - 4) c5) (byteCells (R.drop 4)):=(HSG5.out.keep (w':=W5) fun b o hb=>World.cell?_of_block (a:=⟨b,o,none⟩) (hk5.block b (by omega) (by omega))).more (by omega)
 rw [HRL.out] at hsgD
 have hca:=decode_any (R.drop 4) _ W5 hsgD
 have HB5:=Lib.hid hb5;have HBX5:=Lib.hid hbx5;have HZ5:=Lib.hid hz5;have HCA:=Lib.hid hca
 rw [←hW5]
 clear hca hsgD hz5 hb5 hk5 hW5 hbx5 hor hd0 hd1 hd2 hd3 y0 y1 y2 q0 q1 q2
 go_wp2_with fail
 refine HCA.out.mono ?_
 rintro e w6 ⟨hb6,v6,rfl,hs6,hn6⟩
 have hz6:=hb6.size
 have hbx6:=(hb6.block _ (by have:=HZ5.out;omega)).trans HBX5.out
 have HB6:Hid (Below w.heap.size w w6):=Lib.hid (HB5.out.trans (hb6.mono (by have:=HZ5.out;omega)))
 obtain ⟨y0,y1,y2⟩:=box3 hbx6
 obtain ⟨q0,q1,q2⟩:=box3_frozen hbx6
 obtain ⟨Wf,hWf,hbf,hblf,hkf⟩:=box_back (.string ⟨#[]⟩) (.int .i64 0) (.slice none 0 0) hbx6 HB6.out
 cases hd:decX (R.drop 4) with
 | none =>
  have HT0:Hid (readE L=none):=Lib.hid (by rw [HPRE.out];exact tailE_dec HR4.out hd)
  have hv6:=hn6 hd
  subst hv6
  obtain ⟨f0,f1,f2⟩:=box3 hbf
  clear hs6 hn6 hb6 hbx6 hbf
  dsimp only [Option.isSome]
  go_wp2
  rw [←hWf]
  refine bodyPost_ret (v:=.tuple #[.agg #[.string ⟨#[]⟩,.int .i64 0,.slice none 0 0],.bool false,.bool false]) (by simp [results,Tryz.results55,go_sem,f0,f1,f2]) rfl ?_
  rw [HPO.out]
  exact rd_none HT0.out hblf
 | some xs =>
  have hxs:=hs6 xs hd
  obtain ⟨A6,c6,rfl,-,-⟩:=hxs.form
  dsimp only [Option.isSome]
  by_cases hN:1073741824≤N
  ·have hN':(1073741824:Int)≤(N:Int):=by omega
   have HT0:Hid (readE L=none):=Lib.hid (by rw [HPRE.out];exact tailE_big HR4.out (by rw [HNU.out];exact hN))
   obtain ⟨f0,f1,f2⟩:=box3 hbf
   clear hs6 hn6 hb6 hbx6 hbf hxs
   go_wp2
   rw [←hWf]
   refine bodyPost_ret (v:=.tuple #[.agg #[.string ⟨#[]⟩,.int .i64 0,.slice none 0 0],.bool false,.bool false]) (by simp [results,Tryz.results55,go_sem,f0,f1,f2]) rfl ?_
   rw [HPO.out]
   exact rd_none HT0.out hblf
  ·have hN':¬ (1073741824:Int)≤(N:Int):=by omega
   have HT0:Hid (readE L=some (⟨U,(N:Int),xs⟩,true)):=Lib.hid (by rw [HPRE.out,←HNU.out];exact tailE_ok HR4.out hd (by rw [HNU.out];exact hN))
   obtain ⟨W7,hW7⟩:∃ W7,W7=w6.setCell ⟨w.heap.size,2,none⟩ (.slice A6 xs.length c6):=⟨_,rfl⟩
   have hbx7:W7.heap[w.heap.size]? = some (.cells #[.string U,.int .i64 (N:Int),.slice A6 xs.length c6] 55 (0,0)):=by
    rw [hW7]
    have:=cells_put hbx6 2 (.slice A6 xs.length c6)
    simpa using this
   have hk7:Kept (· = w.heap.size) w6 W7:=by rw [hW7];exact (Kept.refl (· = w.heap.size) _).setCell (p:=⟨w.heap.size,2,none⟩) (.inl rfl) _
   have hb7:Below w.heap.size w W7:=HB6.out.trans (hk7.below (by have:=HB6.out.size;omega) (fun k hk=>by omega))
   obtain ⟨Wg,hWg,hbg,hblg,hkg⟩:=box_back (.string U) (.int .i64 (N:Int)) (.slice A6 xs.length c6) hbx7 hb7
   obtain ⟨p0,p1,p2⟩:=box3 hbx7
   obtain ⟨s0,s1,s2⟩:=box3_frozen hbx7
   have HE:Hid (P (.returned (.tuple #[.agg #[.string U,.int .i64 (N:Int),.slice A6 xs.length c6],.bool true,.bool true])) Wg):=Lib.hid (by
    rw [HPO.out]
    refine ⟨hblg,_,_,_,_,_,_,_,rfl,fun h=>(by rw [HT0.out] at h;cases h),fun E t h=>?_⟩
    rw [HT0.out] at h
    simp only [Option.some.injEq,Prod.mk.injEq] at h
    obtain ⟨rfl,rfl⟩:=h
    refine ⟨rfl,rfl,A6,c6,rfl,by rw [HUS.out];omega,hxs.keep fun g hg=>?_⟩
    have h1:=HZ5.out
    have h2:=hk7.size
    have h3:=hkg.size
    exact ⟨by omega,(hkg.block g (by omega) (by omega)).trans (hk7.block g hg.2 (by omega))⟩)
   obtain ⟨f0,f1,f2⟩:=box3 hbg
   rw [hW7] at p0 p1 p2 s0 s1 s2
   clear hs6 hn6 hb6 hbx6 hbf hxs hbx7 hk7 hb7 hbg hblg hkg hWf hblf hkf
   go_wp2
   rw [←hW7,←hWg]
   refine bodyPost_ret (v:=.tuple #[.agg #[.string U,.int .i64 (N:Int),.slice A6 xs.length c6],.bool true,.bool true]) (by simp [results,Tryz.results55,go_sem,f0,f1,f2]) rfl ?_
   exact HE.out
def heldR (v:Value):Option (DataW Value × List MemPlace):=some (.held v,[])
theorem heldR_at {v d:Value} {ps:List MemPlace} (h:heldR v=some (.held d,ps)):v=d:=by
 unfold heldR at h
 simp only [Option.some.injEq,Prod.mk.injEq,DataW.held.injEq] at h
 exact h.1
structure EnR where
 e:En
 v:Value
def keyX (x:EnR):List UInt8:=keyE x.e
def datE (xs:List EnR):DataW Value:=.map (xs.map fun x=>(.string (keyX x),.held x.v))
theorem insert_mapE (x:EnR):∀ xs:List EnR,DataW.insert (H:=Value) (.string (keyX x),.held x.v) (xs.map fun x=>(.string (keyX x),.held x.v))=(putL keyX x xs).map fun x=>(.string (keyX x),.held x.v)
 | []=>rfl
 | y :: xs=>by
  cases h:bytesBefore (keyX x) (keyX y) with
  | true =>
   have h':(Lit.string (keyX x)).before (Lit.string (keyX y))=true:=h
   simp [DataW.insert,putL,h,h']
  | false =>
   have h':(Lit.string (keyX x)).before (Lit.string (keyX y))=false:=h
   simp [DataW.insert,putL,h,h',insert_mapE x xs]
theorem datE_put (x:EnR) (xs:List EnR):(datE xs).put (.string (keyX x)) (.held x.v)=datE (withL keyX x xs):=by
 unfold datE DataW.put withL dropL
 simp only []
 rw [List.filter_map,insert_mapE]
 congr 3
theorem datE_del (s:List UInt8) (xs:List EnR):(datE xs).del (.string s)=datE (dropL keyX s xs):=by
 unfold datE DataW.del dropL
 simp only []
 rw [List.filter_map]
 congr 2
theorem datE_find (s:List UInt8):((fun p:Lit × DataW Value=>p.1.sameKey (.string s)) ∘ fun x:EnR=>(Lit.string (keyX x),DataW.held x.v))=fun y=>keyX y == s:=by
 funext y;rfl
def zeroEn:Value:=.agg #[.string ⟨#[]⟩,.int .i64 0,.slice none 0 0]
def valX (xs:List EnR) (s:List UInt8):Value:=match findL keyX s xs with | some x=>x.v | none=>zeroEn
theorem datE_at (s:List UInt8) (xs:List EnR):(datE xs).atKey (.string s) (.held zeroEn)=.held (valX xs s):=by
 unfold datE DataW.atKey valX findL
 simp only []
 rw [List.find?_map,datE_find]
 cases List.find? (fun y=>keyX y == s) xs <;> rfl
theorem datE_has (s:List UInt8) (xs:List EnR):Maps.has (datE xs) (.string s)=(findL keyX s xs).isSome:=by
 unfold datE Maps.has findL
 simp only []
 rw [List.any_map,datE_find]
 rw [Bool.eq_iff_iff,List.find?_isSome,List.any_eq_true]
structure IxAt (w:World) (px pj mb:Nat) (xs:List EnR) (S:Nat→Prop):Prop where
 head:w.heap[px]? = some (.cells #[.pointer (some ⟨pj,0,none⟩),.map (some mb)] 114 (0,0))
 map:w.ownsMap Tryz.prog 9 heldR mb xs.length (datE xs)
 rising:Rising keyX xs
 ents:∀ x∈xs,EntAt S w x.v x.e
 pm:px≠mb
 np:¬ S px∧¬ S mb
section
variable {w w':World} {px pj mb:Nat} {xs:List EnR} {S S':Nat→Prop}
theorem IxAt.keep (h:IxAt w px pj mb xs S) (hp:w'.heap[px]? = w.heap[px]?) (hm:w'.heap[mb]? = w.heap[mb]?) (hk:∀ b,S b→w'.heap[b]? = w.heap[b]?):IxAt w' px pj mb xs S :=
 ⟨hp.trans h.head,ownsMap_block h.map hm,h.rising,fun x hx=>(h.ents x hx).keep fun b hb=>⟨hb,hk b hb⟩,h.pm,h.np⟩
theorem IxAt.sub (h:IxAt w px pj mb xs S) (hS:∀ b,S b→S' b) (hn:¬ S' px∧¬ S' mb):IxAt w px pj mb xs S' :=
 ⟨h.head,h.map,h.rising,fun x hx=>(h.ents x hx).keep fun b hb=>⟨hS b hb,rfl⟩,h.pm,hn⟩
theorem IxAt.lt (h:IxAt w px pj mb xs S):px < w.heap.size∧mb < w.heap.size:=⟨lt_blk h.head,h.map.lt⟩
end
theorem zeroEn_ok (w:World):(zeroValue 55).run Tryz.prog w=.ok zeroEn w:=by kernel_rfl
theorem IxAt.look2 {w:World} {px pj mb:Nat} {xs:List EnR} {S:Nat→Prop} (h:IxAt w px pj mb xs S) (s:ByteArray) (hs:s.size≤9223372036854775807) :
  (Instr.lookup 112 (.map (some mb)) (.string s) true).run Tryz.prog w=.ok (.tuple #[valX xs s.data.toList,.bool (findL keyX s.data.toList xs).isSome]) w:=by
 obtain ⟨v,ps,hrun,hv⟩:=h.map.look_ok strK Tryz.underlying112 (zeroEn_ok _) (zd:=.held zeroEn) (zp:=[]) rfl (keyStr s hs)
 rw [hrun,datE_has]
 rw [datE_at] at hv
 rw [heldR_at hv]
theorem ownsMap_lenE {w:World} {b n:Nat} {xs:List EnR} (h:w.ownsMap Tryz.prog 9 heldR b n (datE xs)):w.ownsMap Tryz.prog 9 heldR b xs.length (datE xs):=by
 obtain ⟨es,clock,h1,h2,h3,h4⟩:=h
 refine ⟨es,clock,h1,h2,?_,h4⟩
 unfold datE at h4
 injection h4 with h4
 have:=congrArg List.length h4
 rw [length_sorted] at this
 simp at this
 omega
theorem IxAt.put {w:World} {px pj mb:Nat} {xs:List EnR} {S:Nat→Prop} (h:IxAt w px pj mb xs S) (hl:xs.length≤1000000000) (x:EnR) (hx:EntAt S w x.v x.e) (hs:x.e.uri.size≤9223372036854775807) :
  ∃ w',(Instr.mapUpdate 112 (.map (some mb)) (.string x.e.uri) x.v).run Tryz.prog w=.ok () w'∧IxAt w' px pj mb (withL keyX x xs) S∧Kept (· = mb) w w'∧w'.heap.size=w.heap.size:=by
 obtain ⟨w',hrun,hown,ht⟩:=h.map.store (n:=xs.length) strK Tryz.underlying112 (by unfold maxLen;omega) (keyStr x.e.uri hs) (val:=x.v) (d:=.held x.v) (ps:=[]) rfl
 have hk:Kept (· = mb) w w':=(Kept.refl _ w).grown ht.grown (fun k e=>by cases e;exact .inl rfl)
 have hz:w'.heap.size=w.heap.size:=by
  obtain ⟨es,clock,es',clock',hb,rfl⟩:=ht
  simp [ChangeMaps.setBlock]
 refine ⟨w',hrun,⟨(hk.block px h.lt.1 h.pm).trans h.head,?_,h.rising.withL,fun y hy=>?_,h.pm,h.np⟩,hk,hz⟩
 ·have hown2:w'.ownsMap Tryz.prog 9 heldR mb (xs.length+1) (datE (withL keyX x xs)):=by rw [←datE_put];exact hown
  exact ownsMap_lenE hown2
 ·have key:∀ z:EnR,EntAt S w z.v z.e→EntAt S w' z.v z.e:=fun z hz=>hz.keep fun b hb=>⟨hb,by
   by_cases hbl:b < w.heap.size
   ·exact hk.block b hbl (fun e=>h.np.2 (e ▸ hb))
   ·rw [Array.getElem?_eq_none (by omega),Array.getElem?_eq_none (by omega)]⟩
  rcases mem_withL.1 hy with rfl|⟨h1,_⟩
  ·exact key _ hx
  ·exact key _ (h.ents y h1)
theorem IxAt.del {w:World} {px pj mb:Nat} {xs:List EnR} {S:Nat→Prop} (h:IxAt w px pj mb xs S) (s:ByteArray) (hs:s.size≤9223372036854775807) (ty:TypeId) :
  ∃ w',(Builtin.delete_ #[112,9] ty #[.map (some mb),.string s]).run Tryz.prog w=.ok (.tuple #[]) w'∧IxAt w' px pj mb (dropL keyX s.data.toList xs) S∧Kept (· = mb) w w'∧w'.heap.size=w.heap.size:=by
 obtain ⟨w',hrun,hown,ht⟩:=h.map.drop (n:=xs.length) strK Tryz.underlying112 (keyStr s hs) ty
 have hk:Kept (· = mb) w w':=(Kept.refl _ w).grown ht.grown (fun k e=>by cases e;exact .inl rfl)
 have hz:w'.heap.size=w.heap.size:=by
  obtain ⟨es,clock,es',clock',hb,rfl⟩:=ht
  simp [ChangeMaps.setBlock]
 refine ⟨w',hrun,⟨(hk.block px h.lt.1 h.pm).trans h.head,?_,h.rising.dropL _,fun y hy=>?_,h.pm,h.np⟩,hk,hz⟩
 ·rw [datE_del] at hown
  exact ownsMap_lenE hown
 ·exact (h.ents y (mem_dropL.1 hy).1).keep fun b hb=>⟨hb,by
   by_cases hbl:b < w.heap.size
   ·exact hk.block b hbl (fun e=>h.np.2 (e ▸ hb))
   ·rw [Array.getElem?_eq_none (by omega),Array.getElem?_eq_none (by omega)]⟩
theorem map_withX (x:EnR) (xs:List EnR):(withL keyX x xs).map (·.e)=withL keyE x.e (xs.map (·.e)):=map_withL (key:=keyX) (key':=keyE) EnR.e (fun _=>rfl) x xs
theorem map_dropX (s:List UInt8) (xs:List EnR):(dropL keyX s xs).map (·.e)=dropL keyE s (xs.map (·.e)):=map_dropL (key:=keyX) (key':=keyE) EnR.e (fun _=>rfl) s xs
theorem map_findX (s:List UInt8) (xs:List EnR):findL keyE s (xs.map (·.e))=(findL keyX s xs).map (·.e):=map_findL (key:=keyX) (key':=keyE) EnR.e (fun _=>rfl) s xs
end Go.Proofs.YtaalbcfpacpgfaaGreat
