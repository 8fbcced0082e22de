/- The reference's Renamed. -/
import Derived.Test.YtaalbcfpacpgfaaGreatZaTY
import Derived.Test.YtaalbcfpacpgfaaGreatZaL10
set_option linter.unusedVariables false
set_option linter.unusedSimpArgs false
namespace Go.Typ
mutual
def renR (L:List Int):Ty→Ty
 | .mk k n s ts=>if k=1 then (if n∈L then .mk 1 (L.idxOf n) ⟨#[]⟩ [] else .mk k n s ts) else .mk k n s (renRL L ts)
def renRL (L:List Int):List Ty→List Ty
 | []=>[]
 | a :: ts=>renR L a :: renRL L ts
end
theorem renRL_map (L:List Int) (ts:List Ty):renRL L ts=ts.map (renR L):=by
 induction ts with
 | nil=>rfl
 | cons a ts ih=>rw [renRL,ih];rfl
theorem renR_in {L:List Int} {T:Ty} (h:T.kind=1) (hn:T.num∈L):renR L T=.mk 1 (L.idxOf T.num) ⟨#[]⟩ []:=by
 obtain ⟨k,n,s,ts⟩:=T
 simp only [Ty.kind,Ty.num] at h hn ⊢
 rw [renR,if_pos h,if_pos hn]
theorem renR_out {L:List Int} {T:Ty} (h:T.kind=1) (hn:T.num ∉ L):renR L T=T:=by
 obtain ⟨k,n,s,ts⟩:=T
 simp only [Ty.kind,Ty.num] at h hn ⊢
 rw [renR,if_pos h,if_neg hn]
theorem renR_other {L:List Int} {T:Ty} (h:¬ T.kind=1):renR L T=.mk T.kind T.num T.name (T.args.map (renR L)):=by
 obtain ⟨k,n,s,ts⟩:=T
 simp only [Ty.kind,Ty.num,Ty.name,Ty.args] at h ⊢
 rw [renR,if_neg h,renRL_map]
theorem idxOf_at {L:List Int} {k:Nat} {n:Int} (hk:k < L.length) (h:L[k]=n) (hb:n ∉ L.take k):n∈L∧L.idxOf n=k:=by
 have hm:n∈L:=by rw [←h];exact List.getElem_mem hk
 refine ⟨hm,?_⟩
 induction L generalizing k with
 | nil=>cases hm
 | cons a L ih =>
  cases k with
  | zero=>simp only [List.getElem_cons_zero] at h;rw [h];simp
  | succ k =>
   simp only [List.getElem_cons_succ,List.length_cons,Nat.add_lt_add_iff_right,List.take_succ_cons,List.mem_cons,not_or] at h hk hb
   have hne:(a == n)=false:=by simp;exact fun e=>hb.1 e.symm
   rw [List.idxOf_cons,hne]
   simp only [cond_false]
   rw [ih hk h hb.2 (by rw [←h];exact List.getElem_mem hk)]
end Go.Typ
namespace Go.Proofs.YtaalbcfpacpgfaaGreat
open Go.RowKit Go.Lib Go.Vfs Go.Par Go.Typ Go.Shelf
def RenPost (L:List Int) (T:Ty) (w:World) (e:Ending) (w':World):Prop :=
 ∃ A c,e=.returned (tyV (renR L T).kind (renR L T).num (renR L T).name A (renR L T).args.length c)∧TyAt (fun g=>w.heap.size≤g∧g < w'.heap.size) w' (tyV (renR L T).kind (renR L T).num (renR L T).name A (renR L T).args.length c) (renR L T)∧Below w.heap.size w w'
theorem ren_post {L:List Int} {T R:Ty} (hR:renR L T=R) {w w':World} {A:Option Addr} {c:Nat} (h:TyAt (fun g=>w.heap.size≤g∧g < w'.heap.size) w' (tyV R.kind R.num R.name A R.args.length c) R) (hb:Below w.heap.size w w'):RenPost L T w (.returned (tyV R.kind R.num R.name A R.args.length c)) w':=by
 subst hR;exact ⟨A,c,rfl,h,hb⟩
set_option maxRecDepth 20000 in
set_option maxHeartbeats 2000000 in
theorem renamed_any (B:Nat) (L:List Int) (hL:L.length≤1000000000) (lv:Value) (T:Ty):∀ (v:Value) (w:World),B≤w.heap.size→Seg w B lv (ints L)→TyAt (· < w.heap.size) w v T→T.parts≤1099511627776→(∀ x∈T.list,x.kind=1→x.args=[]) →
  Calls Tryz.prog 185 #[v,lv] w (RenPost L T w):=by
 induction T using Ty.ind with
 | h T ih =>
  intro v w hB hS hT hp hva
  have IH:=Lib.hid ih
  clear ih
  obtain ⟨P,hP⟩:∃ P,P=RenPost L T w:=⟨_,rfl⟩
  have HPO:=Lib.hid hP
  rw [←hP]
  clear hP
  obtain ⟨A,c,rfl,hc,hm,hn⟩:=hT.form
  obtain ⟨Al,cl,rfl,hcl,hml,hatl⟩:=hS.open_ints
  have hla:T.args.length≤1099511627776:=by have:=length_parts T.args;rw [T.parts_eq] at hp;omega
  obtain ⟨W1,hW1⟩:∃ W1,W1=(w.alloc (.cells #[.int .i64 T.kind,.int .i64 T.num,.string T.name,.slice A T.args.length c] 61)).alloc (.cells #[.int .i64 0,.int .i64 0,.string ⟨#[]⟩,.slice none 0 0] 61):=⟨_,rfl⟩
  have hL:Loop4 w W1 w.heap.size T A c:=by
   refine ⟨?_,by rw [hW1];simp;omega,Nat.le_refl _,by rw [hW1];exact ((Below.refl _ _).alloc (Nat.le_refl _) _).alloc (by simp) _,hT⟩
   rw [hW1,Below.heap_alloc _ _ _ (by simp)]
   exact heap_alloc_new _ _
  have hres:W1.heap[w.heap.size+1]? = some (.cells #[.int .i64 0,.int .i64 0,.string ⟨#[]⟩,.slice none 0 0] 61 (0,0)):=by
   rw [hW1]
   have:=heap_alloc_new (w.alloc (.cells #[.int .i64 T.kind,.int .i64 T.num,.string T.name,.slice A T.args.length c] 61)) (.cells #[.int .i64 0,.int .i64 0,.string ⟨#[]⟩,.slice none 0 0] 61)
   simpa using this
  have hz1:W1.heap.size=w.heap.size+2:=by rw [hW1];simp
  have hS1:Seg W1 B (.slice Al L.length cl) (ints L):=hS.below (hL.below.mono hB)
  obtain ⟨y0,y1,y2,y3⟩:=box4 hL.box
  obtain ⟨r0,r1,r2,r3⟩:=box4 hres
  obtain ⟨s0,s1,s2,s3⟩:=box4_frozen hres
  have HL:=Lib.hid hL;have HRS:=Lib.hid hres;have HP:=Lib.hid hp;have HZ1:=Lib.hid hz1;have HB:=Lib.hid hB;have HS1:=Lib.hid hS1;have HVA:=Lib.hid hva;have HLN:=Lib.hid hn;have HCM:=Lib.hid hm
  rw [hW1] at y0 y1 y2 y3
  clear hT hL hres hp hz1 hB hS hS1 hatl hva hn hc hm
  unfold tyV
  by_cases k1:T.kind=1
  ·have h1:(T.kind == 1)=true:=by simp [k1]
   have K1:=Lib.hid k1
   clear k1 r0 r1 r2 r3 s0 s1 s2 s3
   go_enter Tryz.func185,Tryz.ntmps185
   go_wp2
   rw [←hW1]
   clear hW1 y0 y1 y2 y3 h1
   go_loopw [5] (fun iv W=>∃ (k:Nat),k≤L.length∧iv=.int .i64 k∧Hid (T.num ∉ L.take k)∧∃ n,W=W1.drewN n) (fun iv _=>L.length - (RowKit.intOf iv).toNat)
   case atStart=>exact ⟨0,by omega,rfl,Lib.hid (by simp),0,rfl⟩
   case round =>
    obtain ⟨k,hk,rfl,HA,n0,rfl⟩:=hrel
    obtain ⟨y0,y1,y2,y3⟩:=box4 HL.out.box
    obtain ⟨A0,c0,e0,hc0,hm0,hat⟩:=HS1.out.open_ints
    injection e0 with e1 _ e2
    subst e1 e2
    by_cases hlt:k < L.length
    ·obtain ⟨b,off,x,rfl,hb,hx,HX⟩:=hat.int hlt
     have hgk:L.getD k 0=L[k]:=by rw [List.getD_eq_getElem?_getD,List.getElem?_eq_getElem hlt];rfl
     have HGK:Hid (L[k]=x):=Lib.hid (by rw [←HX.out,hgk])
     have HTK:Hid (L.take (k+1)=L.take k ++ [L[k]]):=Lib.hid (by rw [List.take_succ_eq_append_getElem hlt])
     clear hgk hat
     go_wp2_with fail
     go_quiet (fail)
     by_cases he:x=T.num
     ·have HE:Hid (renR L T=.mk 1 (k:Nat) ⟨#[]⟩ []):=Lib.hid (by
       obtain ⟨h1,h2⟩:=idxOf_at hlt (HGK.out.trans he) HA.out
       rw [renR_in K1.out h1,h2])
      have heq:(x == T.num)=true:=by simp [he]
      clear he
      obtain ⟨W2,hW2⟩:∃ W2,W2=(W1.drewN n0).drewN nq:=⟨_,rfl⟩
      have hh:W2.heap=W1.heap:=by rw [hW2];rfl
      have hres2:W2.heap[w.heap.size+1]? = some (.cells #[.int .i64 0,.int .i64 0,.string ⟨#[]⟩,.slice none 0 0] 61 (0,0)):=by rw [hh];exact HRS.out
      obtain ⟨Wf,hWf,hbx,hkf⟩:=end4 (.int .i64 1) (.int .i64 k) (.string ⟨#[]⟩) (.slice none 0 0) hres2
      obtain ⟨u0,u1,u2,u3⟩:=box4 hres2
      obtain ⟨v0,v1,v2,v3⟩:=box4_frozen hres2
      have HBF:Hid (Below w.heap.size w Wf):=Lib.hid (((Kept.of_below (HL.out.below)).trans' (F:=fun g=>g=w.heap.size+1) ⟨by rw [hW2];rfl,by rw [hW2];rfl,by rw [hW2];rfl,by rw [hh];exact Nat.le_refl _,fun g _ _=>by rw [hh]⟩ |>.trans' hkf).below (Nat.le_refl _) (fun g hg=>by omega))
      have HBXF:=Lib.hid hbx
      have HWF:=Lib.hid hWf
      rw [←hW2]
      clear hres2 hbx hkf hWf hh hW2
      go_wp2
      rw [←HWF.out]
      obtain ⟨f0,f1,f2,f3⟩:=box4 HBXF.out
      refine bodyPost_ret (v:=.agg #[.int .i64 1,.int .i64 k,.string ⟨#[]⟩,.slice none 0 0]) (by simp [results,Tryz.results185,go_sem,f0,f1,f2,f3]) rfl ?_
      rw [HPO.out]
      exact ren_post HE.out (TyAt.leaf _ _ 1 k ⟨#[]⟩ none 0 (by simp [maxLen]) (by decide)) HBF.out
     ·have HNI:Hid (T.num ∉ L.take (k+1)):=Lib.hid (by
       rw [HTK.out]
       intro h
       rcases List.mem_append.1 h with h|h
       ·exact HA.out h
       ·rw [List.mem_singleton.1 h] at he;exact he HGK.out.symm)
      have heq:(x == T.num)=false:=by simp [he]
      clear he
      go_wp2
      go_roundw
      case rel=>exact ⟨k+1,by omega,by go_num,HNI,n0+nq,rfl⟩
      case measure=>simp [RowKit.intOf];omega
    ·have hkl:k=L.length:=by omega
     have HE:Hid (renR L T=T):=Lib.hid (renR_out K1.out (by have:=HA.out;rw [hkl,List.take_length] at this;exact this))
     obtain ⟨W2,hW2⟩:∃ W2,W2=W1.drewN n0:=⟨_,rfl⟩
     have hh:W2.heap=W1.heap:=by rw [hW2];rfl
     have hres2:W2.heap[w.heap.size+1]? = some (.cells #[.int .i64 0,.int .i64 0,.string ⟨#[]⟩,.slice none 0 0] 61 (0,0)):=by rw [hh];exact HRS.out
     obtain ⟨Wf,hWf,hbx,hkf⟩:=end4 (.int .i64 T.kind) (.int .i64 T.num) (.string T.name) (.slice A T.args.length c) hres2
     obtain ⟨u0,u1,u2,u3⟩:=box4 hres2
     obtain ⟨v0,v1,v2,v3⟩:=box4_frozen hres2
     have hbx2:W2.heap[w.heap.size]? = some (.cells #[.int .i64 T.kind,.int .i64 T.num,.string T.name,.slice A T.args.length c] 61 (0,0)):=by rw [hh];exact HL.out.box
     obtain ⟨y0,y1,y2,y3⟩:=box4 hbx2
     have HBF:Hid (Below w.heap.size w Wf):=Lib.hid (((Kept.of_below (HL.out.below)).trans' (F:=fun g=>g=w.heap.size+1) ⟨by rw [hW2];rfl,by rw [hW2];rfl,by rw [hW2];rfl,by rw [hh];exact Nat.le_refl _,fun g _ _=>by rw [hh]⟩ |>.trans' hkf).below (Nat.le_refl _) (fun g hg=>by omega))
     have HLF:Hid (TyAt (fun g=>w.heap.size≤g∧g < Wf.heap.size) Wf (tyV T.kind T.num T.name A T.args.length c) T):=Lib.hid (by
      have h0:=HVA.out T (by rw [T.list_eq];exact List.mem_cons_self) K1.out
      have hcm:=HCM.out
      have hln:=HLN.out
      obtain ⟨tk,tn,ts,ta⟩:=T
      simp only [Ty.args] at h0
      subst h0
      exact TyAt.leaf _ _ _ _ _ _ _ hcm hln)
     have HBXF:=Lib.hid hbx
     have HWF:=Lib.hid hWf
     rw [←hW2]
     clear hres2 hbx hkf hWf hh hW2 hbx2 hat hkl
     go_wp2
     rw [←HWF.out]
     obtain ⟨f0,f1,f2,f3⟩:=box4 HBXF.out
     refine bodyPost_ret (v:=.agg #[.int .i64 T.kind,.int .i64 T.num,.string T.name,.slice A T.args.length c]) (by simp [results,Tryz.results185,go_sem,f0,f1,f2,f3]) rfl ?_
     rw [HPO.out]
     exact ren_post HE.out HLF.out HBF.out
  ·have h1:(T.kind == 1)=false:=by simp [k1]
   have HE:Hid (renR L T=.mk T.kind T.num T.name (T.args.map (renR L))):=Lib.hid (renR_other k1)
   clear k1 r0 r1 r2 r3 s0 s1 s2 s3
   go_enter Tryz.func185,Tryz.ntmps185
   go_wp2
   rw [←hW1]
   clear hW1 y0 y1 y2 y3 h1
   go_loopw [6,7] (fun sv iv W=>∃ (k:Nat) (us:List Value),k≤T.args.length∧iv=.int .i64 k∧Hid (RowK 61 4 TyAt W1.heap.size W1.heap.size W ((T.args.take k).map (renR L)) sv us)∧Hid (Below W1.heap.size W1 W)) (fun _ iv _=>T.args.length - (RowKit.intOf iv).toNat)
   case atStart =>
    refine ⟨0,[],by omega,rfl,Lib.hid ?_,Lib.hid ((Below.refl _ _).alloc (Nat.le_refl _) _)⟩
    have h:=RowK.made (e:=61) (k:=4) (R:=TyAt) (L:=W1.heap.size) (B:=W1.heap.size) W1 (Nat.le_refl _)
    rw [HZ1.out] at h ⊢
    exact h
   case round =>
    obtain ⟨k,us,hk,rfl,HR,HBW⟩:=hrel
    obtain ⟨y0,y1,y2,y3⟩:=box4 (HL.out.in_ HBW.out)
    obtain ⟨q0,q1,q2,q3⟩:=box4_frozen (HL.out.in_ HBW.out)
    by_cases hlt:k < T.args.length
    ·obtain ⟨b,off,A',c',rfl,hb,ht,x0,x1,x2,x3⟩:=(HL.out.ty' HBW.out).arg hlt
     have hzb:=HBW.out.size
     have hca:=IH.out k hlt _ wr (by have:=HB.out;have:=HZ1.out;omega) (HS1.out.below (HBW.out.mono (by have:=HB.out;have:=HZ1.out;omega))) ht (by have:=Ty.parts_arg hlt;have:=HP.out;omega) (fun x hx=>HVA.out x (by rw [T.list_eq];exact List.mem_cons_of_mem _ (mem_listL (List.getElem_mem hlt) hx)))
     have HTK:Hid ((T.args.take (k+1)).map (renR L)=(T.args.take k).map (renR L) ++ [renR L T.args[k]]):=Lib.hid (by rw [List.take_succ_eq_append_getElem hlt,List.map_append];rfl)
     have hlk:((T.args.take k).map (renR L)).length=k:=by rw [List.length_map,List.length_take];omega
     have HLK:=Lib.hid hlk
     clear ht hlk
     unfold RenPost at hca
     generalize renR L T.args[k]=U at *
     generalize T.args[k]=V at *
     unfold tyV at hca
     have HCA:=Lib.hid hca
     clear hca
     go_wp2_with fail
     refine HCA.out.mono ?_
     rintro e w2 ⟨A2,c2,rfl,hu,HB2⟩
     have hr2:=RowK.below (R:=TyAt) TyAt.keep HR.out HB2
     have HR2:=Lib.hid hr2;have HU:=Lib.hid hu
     have hown:=hr2.own
     rw [HLK.out] at hown
     obtain ⟨us',hus⟩:∃ us',us'=us.flatMap flatC:=⟨_,rfl⟩
     rw [←hus] at hown
     have hz2:=HB2.size
     have HUS:=Lib.hid hus
     clear hr2 hu hus
     go_wp2_with (at_builtin;refine wpList_appK _ rfl _ _ _ rfl W1.heap.size _ 4 tyE _ k us' rfl (World.ownsRow.alloc hown _) ⟨w2.heap.size,0,none⟩ 1 1 [.int .i64 U.kind,.int .i64 U.num,.string U.name,.slice A2 U.args.length c2] rfl rfl (cells_new _ _ _) (one4 _ _ _ _ _ _) (by omega) (by simp;omega) ?_;intro v3 w3 hown3 hg3 hat3)
     go_roundw
     case rel =>
      refine ⟨k+1,us ++ [.agg #[.int .i64 U.kind,.int .i64 U.num,.string U.name,.slice A2 U.args.length c2]],by omega,by go_num,Lib.hid ?_,Lib.hid ?_⟩
      ·rw [HTK.out]
       refine RowK.next (R:=TyAt) TyAt.keep HR2.out HU.out (fun g hg=>⟨by omega,hg.2,fun e=>?_⟩) rfl _ ?_ hg3 hat3
       ·have:=HR.out.lt g e;omega
       ·rw [HLK.out,←HUS.out];exact hown3
      ·exact below_grow (HBW.out.trans (HB2.mono hzb)) (by omega) _ hg3 (fun g e=>(hown.lt g e).1)
     case measure=>simp [RowKit.intOf];omega
    ·have hkl:k=T.args.length:=by omega
     subst hkl
     have hr:=HR.out
     rw [List.take_length] at hr
     obtain ⟨A2,c2,rfl,hty⟩:=hr.ty T.kind T.num T.name HLN.out
     obtain ⟨ml,hml⟩:∃ ml,ml=(T.args.map (renR L)).length:=⟨_,rfl⟩
     have HML:=Lib.hid hml
     rw [←hml] at hty HR ⊢
     have hres:wr.heap[w.heap.size+1]? = some (.cells #[.int .i64 0,.int .i64 0,.string ⟨#[]⟩,.slice none 0 0] 61 (0,0)):=by
      rw [HBW.out.block _ (by have:=HZ1.out;omega)];exact HRS.out
     obtain ⟨r0,r1,r2,r3⟩:=box4 hres
     obtain ⟨s0,s1,s2,s3⟩:=box4_frozen hres
     have HTY:=Lib.hid hty
     have HRB:=Lib.hid hres
     clear hty hr hres hml
     go_wp2
     obtain ⟨Wf,hWf⟩:∃ Wf,Wf=(((((wr.setCell ⟨w.heap.size,3,none⟩ (.slice A2 ml c2)).setCell ⟨w.heap.size+1,0,none⟩ (.int .i64 T.kind)).setCell ⟨w.heap.size+1,1,none⟩ (.int .i64 T.num)).setCell ⟨w.heap.size+1,2,none⟩ (.string T.name)).setCell ⟨w.heap.size+1,3,none⟩ (.slice A2 ml c2)):=⟨_,rfl⟩
     have hkp:Kept (fun g=>g=w.heap.size∨g=w.heap.size+1) wr Wf:=by
      rw [hWf]
      exact kept4 ((Kept.refl _ _).setCell (p:=⟨w.heap.size,3,none⟩) (.inl (.inl rfl)) _) (.inl (.inr rfl))
     have hbx:Wf.heap[w.heap.size+1]? = some (.cells #[.int .i64 T.kind,.int .i64 T.num,.string T.name,.slice A2 ml c2] 61 (0,0)):=by
      rw [hWf]
      refine put4 (u0:=.int .i64 0) (u1:=.int .i64 0) (u2:=.string ⟨#[]⟩) (u3:=.slice none 0 0) ?_
      rw [Below.heap_setCell _ _ _ _ (by simp)]
      exact HRB.out
     have hz1:=HZ1.out
     have hzr:=HBW.out.size
     have hzf:=hkp.size
     rw [←hWf]
     obtain ⟨f0,f1,f2,f3⟩:=box4 hbx
     refine bodyPost_ret (v:=.agg #[.int .i64 T.kind,.int .i64 T.num,.string T.name,.slice A2 ml c2]) (by simp [results,Tryz.results185,go_sem,f0,f1,f2,f3]) rfl ?_
     rw [HPO.out]
     have hfin:TyAt (fun g=>w.heap.size≤g∧g < Wf.heap.size) Wf (tyV T.kind T.num T.name A2 ml c2) (.mk T.kind T.num T.name (T.args.map (renR L))):=HTY.out.keep fun g hg=>⟨by omega,hkp.block g hg.2 (by omega)⟩
     rw [HML.out] at hfin ⊢
     exact ren_post HE.out hfin ((HL.out.all HBW.out).trans (hkp.below (by omega) (fun g hg=>by omega)))
end Go.Proofs.YtaalbcfpacpgfaaGreat
