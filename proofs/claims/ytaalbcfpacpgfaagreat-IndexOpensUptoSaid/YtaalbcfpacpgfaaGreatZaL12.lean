/- The reference's Close. -/
import Derived.Deep.RegionHeld
import Derived.Test.YtaalbcfpacpgfaaGreatZaT50
import Derived.Test.YtaalbcfpacpgfaaGreatZaL11
set_option linter.unusedVariables false
set_option linter.unusedSimpArgs false
namespace Go.Typ
open Go.RowKit Go.Lib Go.Vfs Go.Par
theorem fit_num0 {T:Ty} (h:fitsT T=true) (hk:¬ T.kind=1):T.num=0:=by
 rcases fits_kinds h with ⟨h1,_⟩|⟨_,h1,_⟩|⟨_,h1,_⟩|⟨_,h1,_⟩
 ·exact absurd h1 hk
 ·exact h1
 ·exact h1
 ·exact h1
theorem renR_ren (L:List Int) (T:Ty):FitAll T→(∀ x∈T.list,x.kind=1→x.num∈L)→renR L T=renT (fun n=>(L.idxOf n:Int)) T:=by
 induction T using Ty.ind with
 | h T ih =>
  intro hF hL
  rw [renT_eq]
  by_cases k1:T.kind=1
  ·rw [if_pos k1,renR_in k1 (hL T (by rw [T.list_eq];exact List.mem_cons_self) k1)]
  ·rw [if_neg k1,renR_other k1,fit_num0 hF.self k1]
   congr 1
   apply List.map_congr_left
   intro a ha
   obtain ⟨i,hi,rfl⟩:=List.getElem_of_mem ha
   exact ih i hi (hF.arg hi) fun x hx=>hL x (by rw [T.list_eq];exact List.mem_cons_of_mem _ (mem_listL (List.getElem_mem hi) hx))
theorem fit_leaf {T:Ty} (h:FitAll T):∀ x∈T.list,x.kind=1→x.args=[]:=fun x hx hk=>by
 rcases fits_kinds (h x hx) with ⟨_,_,_,_,h5⟩|⟨h1,_⟩|⟨h1,_⟩|⟨h1,_⟩
 ·exact List.eq_nil_of_length_eq_zero h5
 ·omega
 ·omega
 ·omega
end Go.Typ
namespace Go.Proofs.YtaalbcfpacpgfaaGreat
open Go.RowKit Go.Lib Go.Vfs Go.Par Go.Typ Go.Shelf
theorem keep_set4 {W:World} {r b:Nat} {v0 v1 v2 v3:Value} (h:b≠r):((((W.setCell ⟨r,0,none⟩ v0).setCell ⟨r,1,none⟩ v1).setCell ⟨r,2,none⟩ v2).setCell ⟨r,3,none⟩ v3).heap[b]? = W.heap[b]?:=by
 rw [Below.heap_setCell _ _ _ _ h,Below.heap_setCell _ _ _ _ h,Below.heap_setCell _ _ _ _ h,Below.heap_setCell _ _ _ _ h]
theorem renR_close {T:Ty} (h:rightT T=true):renR (closeT T []).2 T=closeR T:=by
 have hF:=(rightT_iff.1 h).2
 rw [renR_ren _ T hF fun x hx hk=>close_mem T [] x hx hk (by
  by_cases k1:T.kind=1
  ·exact .inl (fit_leaf hF T (by rw [T.list_eq];exact List.mem_cons_self) k1)
  ·exact .inr k1) (fit_leaf hF)]
 unfold closeR
 rw [if_pos h,close_ren T [] _ (List.prefix_refl _)]
def RClosePost (T:Ty) (w:World) (e:Ending) (w':World):Prop :=
 ∃ (R:Ty) (A:Option Addr) (cc:Nat),e=.returned (.tuple #[tyV R.kind R.num R.name A R.args.length cc,.int .i64 (if rightT T then 0 else 120)])∧TyAt (fun g=>w.heap.size≤g∧g < w'.heap.size) w' (tyV R.kind R.num R.name A R.args.length cc) R∧Below w.heap.size w w'∧R=closeR T
set_option maxRecDepth 20000 in
set_option maxHeartbeats 2000000 in
theorem rclose_any (T:Ty) (v:Value) (w:World) (hT:TyAt (· < w.heap.size) w v T) (hpt:T.parts≤1099511627776) (hnb:NmB 1000000000 T):Calls Tryz.prog 160 #[v] w (RClosePost T w):=by
 obtain ⟨P,hP⟩:∃ P,P=RClosePost T w:=⟨_,rfl⟩
 have HPO:=Lib.hid hP
 rw [←hP]
 clear hP
 obtain ⟨A,c,rfl,hc,hm,hn⟩:=hT.form
 obtain ⟨W1,hW1⟩:∃ W1,W1=(w.alloc (.cells #[.int .i64 T.kind,.int .i64 T.num,.string T.name,.slice A T.args.length c] 61)).alloc (.cells #[.int .i64 0,.int .i64 0,.string ⟨#[]⟩,.slice none 0 0] 61):=⟨_,rfl⟩
 have hb1:Below w.heap.size w W1:=by rw [hW1];exact ((Below.refl _ _).alloc (Nat.le_refl _) _).alloc (by simp) _
 have hbx:W1.heap[w.heap.size]? = some (.cells #[.int .i64 T.kind,.int .i64 T.num,.string T.name,.slice A T.args.length c] 61 (0,0)):=by
  rw [hW1,Below.heap_alloc _ _ _ (by simp)]
  exact heap_alloc_new _ _
 have hres:W1.heap[w.heap.size+1]? = some (.cells #[.int .i64 0,.int .i64 0,.string ⟨#[]⟩,.slice none 0 0] 61 (0,0)):=by
  rw [hW1]
  have:=heap_alloc_new (w.alloc (.cells #[.int .i64 T.kind,.int .i64 T.num,.string T.name,.slice A T.args.length c] 61)) (.cells #[.int .i64 0,.int .i64 0,.string ⟨#[]⟩,.slice none 0 0] 61)
  simpa using this
 have hz1:W1.heap.size=w.heap.size+2:=by rw [hW1];simp
 have hT1:TyAt (· < w.heap.size) W1 (tyV T.kind T.num T.name A T.args.length c) T:=hT.keep fun g hg=>⟨hg,hb1.block g hg⟩
 have hri:=r12Right_any T _ W1 (hT1.sub fun g (hg:g < w.heap.size)=>by omega) hpt hnb
 have HRI:=Lib.hid hri
 have HBX:=Lib.hid hbx;have HRS:=Lib.hid hres;have HZ1:=Lib.hid hz1;have HT1:=Lib.hid hT1;have HB1:=Lib.hid hb1
 obtain ⟨y0,y1,y2,y3⟩:=box4 hbx
 rw [hW1] at y0 y1 y2 y3
 clear hT hT1 hri hbx hres hz1 hb1 hc hm hn hpt hnb
 unfold tyV at HRI ⊢
 go_enter Tryz.func160,Tryz.ntmps160
 go_wp2_with fail
 rw [←hW1]
 clear hW1 y0 y1 y2 y3
 refine HRI.out.mono ?_
 rintro e w2 ⟨rfl,hb2⟩
 have hz1:=HZ1.out
 have hz2:=hb2.size
 have hbx2:=(hb2.block w.heap.size (by omega)).trans HBX.out
 have hres2:=(hb2.block (w.heap.size+1) (by omega)).trans HRS.out
 have hT2:TyAt (· < w.heap.size) w2 (tyV T.kind T.num T.name A T.args.length c) T:=HT1.out.keep fun g hg=>⟨hg,hb2.block g (by omega)⟩
 have hbw2:Below w.heap.size w w2:=HB1.out.trans (hb2.mono (by omega))
 have HBX2:=Lib.hid hbx2;have HRS2:=Lib.hid hres2;have HT2:=Lib.hid hT2;have HBW2:=Lib.hid hbw2
 have HZ2:Hid (w.heap.size+2≤w2.heap.size):=Lib.hid (by omega)
 cases hr:rightT T with
 | false =>
  obtain ⟨Wf,hWf,hbf,hkf⟩:=end4 (.int .i64 0) (.int .i64 0) (.string ⟨#[]⟩) (.slice none 0 0) hres2
  obtain ⟨r0,r1,r2,r3⟩:=box4 hres2
  obtain ⟨s0,s1,s2,s3⟩:=box4_frozen hres2
  have HE:Hid (P (.returned (.tuple #[.agg #[.int .i64 0,.int .i64 0,.string ⟨#[]⟩,.slice none 0 0],.int .i64 120])) Wf):=Lib.hid (by
   rw [HPO.out]
   have h5:=hkf.size
   exact ⟨zeroT,none,0,by rw [hr];rfl,TyAt.leaf _ _ 0 0 ⟨#[]⟩ none 0 (by simp [maxLen]) (by decide),hbw2.trans (below_of_kept (p:=w.heap.size+1) hkf (by omega) (by omega)),by unfold closeR;rw [hr];rfl⟩)
  have HBF:=Lib.hid hbf
  have HWF:=Lib.hid hWf
  clear hr hres2 hbx2 hT2 hbw2 hbf hkf hWf hb2 hz1 hz2
  go_wp2
  rw [←HWF.out]
  obtain ⟨f0,f1,f2,f3⟩:=box4 HBF.out
  refine bodyPost_ret (v:=.tuple #[.agg #[.int .i64 0,.int .i64 0,.string ⟨#[]⟩,.slice none 0 0],.int .i64 120]) (by simp [results,Tryz.results160,go_sem,f0,f1,f2,f3]) rfl ?_
  exact HE.out
 | true =>
  have hp3:=(rightT_iff.1 hr).1
  have hF:=(rightT_iff.1 hr).2
  obtain ⟨W3,hW3⟩:∃ W3,W3=w2.drew.alloc (.cells #[] 3):=⟨_,rfl⟩
  have hb3:Below w2.heap.size w2 W3:=by rw [hW3];exact (Below.refl w2.heap.size w2).drew.alloc (Nat.le_refl _) _
  have hown:Par.Own W3 w2.heap.size 3 (.slice (some ⟨w2.heap.size,0,none⟩) 0 0) (ints []):=by
   rw [hW3];exact Own.new w2.drew w2.heap.size 3 #[] (ints []) rfl (Nat.le_refl _) (by simp [ints])
  have hva:=vars_any w2.heap.size T [] _ _ W3 hb3.size (HT2.out.keep fun g hg=>⟨by omega,hb3.block g (by omega)⟩) hown (by simp;omega)
  have hlen:(closeT T []).2.length≤300:=by have:=closeT_len T [];simp at this;omega
  have hrc:=renR_close hr
  generalize hL:(closeT T []).2=L at *
  obtain ⟨R,hR⟩:∃ R,R=renR L T:=⟨_,rfl⟩
  rw [←hR] at hrc
  have hrn:∀ (w4:World) (v4:Value),Par.Own w4 w2.heap.size 3 v4 (ints L)→Gr W3 w4 (.slice (some ⟨w2.heap.size,0,none⟩) 0 0) v4→Calls Tryz.prog 185 #[tyV T.kind T.num T.name A T.args.length c,v4] w4 (fun e w'=>(∃ A5 c5,e=.returned (.agg #[.int .i64 R.kind,.int .i64 R.num,.string R.name,.slice A5 R.args.length c5])∧TyAt (fun g=>w4.heap.size≤g∧g < w'.heap.size) w' (.agg #[.int .i64 R.kind,.int .i64 R.num,.string R.name,.slice A5 R.args.length c5]) R∧Below w4.heap.size w4 w')∧Below w2.heap.size w2 w4):=fun w4 v4 ho hg=>by
   have hg2:Below w2.heap.size W3 w4:=hg.below hb3.size (fun g e=>by have e2:w2.heap.size=g:=Option.some.inj e;omega)
   have hb4:=hb3.trans hg2
   exact (renamed_any w4.heap.size L (by omega) v4 T _ w4 (Nat.le_refl _) ho.seg (HT2.out.keep fun g (hgl:g < w.heap.size)=>⟨by have:=hb4.size;omega,hb4.block g (by omega)⟩) (by omega) (fit_leaf hF)).mono fun e w' h=>⟨by rw [hR];exact h,hb4⟩
  have hva2:Calls Tryz.prog 186 #[.slice (some ⟨w2.heap.size,0,none⟩) 0 0,tyV T.kind T.num T.name A T.args.length c] W3 fun e w'=>∃ v',e=.returned v'∧Par.Own w' w2.heap.size 3 v' (ints L)∧Gr W3 w' (.slice (some ⟨w2.heap.size,0,none⟩) 0 0) v'∧Below w2.heap.size w2 w':=by
   refine hva.mono ?_
   rintro e w' ⟨v',h1,h2,h3⟩
   exact ⟨v',h1,h2,h3,hb3.trans (h3.below hb3.size (fun g e=>by have e2:w2.heap.size=g:=Option.some.inj e;omega))⟩
  have hlbx:=lt_blk hbx2
  have HSK:Hid (∀ W':World,W'.heap[w.heap.size]? = w2.heap[w.heap.size]?→W'.cell? ⟨w.heap.size,0,none⟩=some (.int .i64 T.kind)∧W'.cell? ⟨w.heap.size,1,none⟩=some (.int .i64 T.num)∧W'.cell? ⟨w.heap.size,2,none⟩=some (.string T.name)∧W'.cell? ⟨w.heap.size,3,none⟩=some (.slice A T.args.length c)):=Lib.hid fun W' h=>box4 (h.trans hbx2)
  have HLB:=Lib.hid hlbx
  have HRS4:Hid (∀ W',Below w2.heap.size w2 W'→W'.heap[w.heap.size+1]? = some (.cells #[.int .i64 0,.int .i64 0,.string ⟨#[]⟩,.slice none 0 0] 61 (0,0))):=Lib.hid fun W' h=>(h.block _ (lt_blk hres2)).trans hres2
  unfold tyV at hva2 hrn
  have HVA:=Lib.hid hva2
  have HRN:=Lib.hid hrn
  have HRC:=Lib.hid hrc
  have HRT:Hid (rightT T=true):=Lib.hid hr
  have HBD:Hid (Below w2.heap.size w2 w2.drew):=Lib.hid (Below.refl w2.heap.size w2).drew
  have HB3:=Lib.hid hb3
  rw [hW3] at HVA HB3 HRN
  clear hr hres2 hbx2 hT2 hbw2 hb2 hz1 hz2 hb3 hown hva hva2 hrn hrc hL hlbx hF hp3 hR
  go_wp2_with fail
  have HS0:=Lib.hid (HSK.out w2.drew rfl)
  refine wp_region_held (S:=(fun W':World=>W'.cell? ⟨w.heap.size,0,none⟩=some (.int .i64 T.kind)∧W'.cell? ⟨w.heap.size,1,none⟩=some (.int .i64 T.num)∧W'.cell? ⟨w.heap.size,2,none⟩=some (.string T.name)∧W'.cell? ⟨w.heap.size,3,none⟩=some (.slice A T.args.length c))) (by kernel_rfl) ?_
  refine takeD (i:=0) (s:=8) (v:=.agg #[.int .i64 T.kind,.int .i64 T.num,.string T.name,.slice A T.args.length c]) rfl rfl (by kernel_rfl) (by kernel_rfl) (by kernel_rfl) (fun _ _ _ h=>h) (Or.inl ⟨by rfl,fun w' hS=>by obtain ⟨s0,s1,s2,s3⟩:=hS;go_simp⟩) HS0.out ?_
  try simp only [List.setIfInBounds_toArray,List.set_cons_zero,List.set_cons_succ]
  refine takeD (i:=2) (s:=10) (v:=.agg #[.int .i64 T.kind,.int .i64 T.num,.string T.name,.slice A T.args.length c]) rfl rfl (by kernel_rfl) (by kernel_rfl) (by kernel_rfl) (fun _ _ _ h=>h) (Or.inl ⟨by rfl,fun w' hS=>by obtain ⟨s0,s1,s2,s3⟩:=hS;go_simp⟩) HS0.out ?_
  try simp only [List.setIfInBounds_toArray,List.set_cons_zero,List.set_cons_succ]
  refine wpAnyH_all (rs:=[1]) (by kernel_rfl) (by simp) ?_
  intro i hi
  simp only [List.mem_cons,List.not_mem_nil,or_false] at hi
  subst hi
  refine wpOp_ofQ rfl rfl (fun K hK=>?_)
  go_simp
  have HS1:=Lib.hid (HSK.out (w2.drew.alloc (.cells #[] 3)) (HB3.out.block _ HLB.out))
  refine hK _ _ ⟨HS1.out,?_⟩
  clear hK K
  try simp only [List.setIfInBounds_toArray,List.set_cons_zero,List.set_cons_succ]
  refine wpAnyH_all (rs:=[3]) (by kernel_rfl) (by simp) ?_
  intro i hi
  simp only [List.mem_cons,List.not_mem_nil,or_false] at hi
  subst hi
  refine wpOp_ofQ rfl rfl (fun K hK=>?_)
  go_simp
  refine HVA.out.mono ?_
  rintro e w4 ⟨v4,rfl,ho4,hg4,hb4⟩
  have HS4:=Lib.hid (HSK.out w4 (hb4.block _ HLB.out))
  refine hK _ _ ⟨HS4.out,?_⟩
  clear hK K
  try simp only [List.setIfInBounds_toArray,List.set_cons_zero,List.set_cons_succ]
  refine wpAnyH_all (rs:=[4]) (by kernel_rfl) (by simp) ?_
  intro i hi
  simp only [List.mem_cons,List.not_mem_nil,or_false] at hi
  subst hi
  refine wpOp_ofQ rfl rfl (fun K hK=>?_)
  go_simp
  refine (HRN.out _ _ ho4 hg4).mono ?_
  rintro e w5 ⟨⟨A5,c5,rfl,hT5,hb5⟩,hb45⟩
  have hb25:=hb45.trans (hb5.mono hb45.size)
  have hrs5:=HRS4.out _ hb25
  obtain ⟨r0,r1,r2,r3⟩:=box4 hrs5
  obtain ⟨s0,s1,s2,s3⟩:=box4_frozen hrs5
  have HS5:=Lib.hid (HSK.out w5 (hb25.block _ HLB.out))
  refine hK _ _ ⟨HS5.out,?_⟩
  clear hK K
  try simp only [List.setIfInBounds_toArray,List.set_cons_zero,List.set_cons_succ]
  refine wpAnyH_all (rs:=[5]) (by kernel_rfl) (by simp) ?_
  intro i hi
  simp only [List.mem_cons,List.not_mem_nil,or_false] at hi
  subst hi
  refine wpOp_ofQ rfl rfl (fun K hK=>?_)
  go_simp
  have HS6:=Lib.hid (HSK.out _ ((keep_set4 (W:=w5) (r:=w.heap.size+1) (v0:=.int .i64 R.kind) (v1:=.int .i64 R.num) (v2:=.string R.name) (v3:=.slice A5 R.args.length c5) (Nat.ne_of_lt (Nat.lt_succ_self _))).trans (hb25.block _ HLB.out)))
  refine hK _ _ ⟨HS6.out,?_⟩
  clear hK K
  try simp only [List.setIfInBounds_toArray,List.set_cons_zero,List.set_cons_succ]
  refine takeD (i:=6) (s:=3) (v:=.int .i64 0) rfl rfl (by kernel_rfl) (by kernel_rfl) (by kernel_rfl) (fun _ _ _ h=>h) (Or.inl ⟨by rfl,fun w' hS=>by obtain ⟨s0,s1,s2,s3⟩:=hS;go_simp⟩) HS6.out ?_
  try simp only [List.setIfInBounds_toArray,List.set_cons_zero,List.set_cons_succ]
  refine wpAnyH_done (by kernel_rfl) ?_ _
  obtain ⟨Wf,hWf,hbf,hkf⟩:=end4 (.int .i64 R.kind) (.int .i64 R.num) (.string R.name) (.slice A5 R.args.length c5) hrs5
  have HE:Hid (P (.returned (.tuple #[.agg #[.int .i64 R.kind,.int .i64 R.num,.string R.name,.slice A5 R.args.length c5],.int .i64 0])) Wf):=Lib.hid (by
   rw [HPO.out]
   have h5:=hkf.size
   have h2:=HZ2.out
   have h4:=hb45.size
   have h6:=hb5.size
   exact ⟨R,A5,c5,by rw [HRT.out];rfl,hT5.keep fun g hg=>⟨by omega,hkf.block g hg.2 (by show ¬ g=_;omega)⟩,(HBW2.out.trans (hb25.mono (by omega))).trans (below_of_kept (p:=w.heap.size+1) hkf (by omega) (by omega)),HRC.out⟩)
  have HBF:=Lib.hid hbf
  have HWF:=Lib.hid hWf
  clear hbf hkf hWf hrs5 r0 r1 r2 r3 s0 s1 s2 s3 hT5 hb5 hb45 hb25 hb4 ho4 hg4
  go_wp2
  rw [←HWF.out]
  obtain ⟨f0,f1,f2,f3⟩:=box4 HBF.out
  refine bodyPost_ret (v:=.tuple #[.agg #[.int .i64 R.kind,.int .i64 R.num,.string R.name,.slice A5 R.args.length c5],.int .i64 0]) (by simp [results,Tryz.results160,go_sem,f0,f1,f2,f3]) rfl ?_
  exact HE.out
end Go.Proofs.YtaalbcfpacpgfaaGreat
