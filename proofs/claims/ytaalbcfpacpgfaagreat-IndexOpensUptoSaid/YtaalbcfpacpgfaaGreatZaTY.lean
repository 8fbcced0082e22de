/- Of the types texts: what the reference of layers 12 and 14 needs (printed from TC, TD, TF, T45 to T48). -/
import Derived.Deep.RegionHeld
import Derived.Test.YtaalbcfpacpgfaaGreatZaXA
set_option linter.unusedVariables false
set_option linter.unusedSimpArgs false
namespace Go.Typ
def NmB (n:Nat) (T:Ty):Prop:=∀ x∈T.list,x.name.size≤n
theorem mem_listL' {x:Ty}:∀ {ts:List Ty},x∈listL ts→∃ t∈ts,x∈t.list
 | t :: ts,h=>by
  rw [listL] at h
  rcases List.mem_append.1 h with h|h
  ·exact ⟨t,List.mem_cons_self,h⟩
  ·obtain ⟨u,hu,hx⟩:=mem_listL' h
   exact ⟨u,List.mem_cons_of_mem _ hu,hx⟩
theorem NmB.mk {n:Nat} {k num:Int} {nm:ByteArray} {ts:List Ty} (h:nm.size≤n) (hs:∀ t∈ts,NmB n t):NmB n (.mk k num nm ts):=fun x hx=>by
 rw [Ty.list_eq] at hx
 rcases List.mem_cons.1 hx with rfl|hx
 ·exact h
 ·obtain ⟨t,ht,hx⟩:=mem_listL' hx
  exact hs t ht x hx
def zeroT:Ty:=.mk 0 0 ⟨#[]⟩ []
open Go.RowKit Go.Lib Go.Vfs Go.Par
mutual
noncomputable def standsT:Ty→Ty→List (Int × Ty)→Bool × List (Int × Ty)
 | .mk k n s gs,T,kn=>if k=1 then (match kn.lookup n with | some U=>(same U T,kn) | none=>(true,kn ++ [(n,T)]))
   else if k=T.kind∧s=T.name∧gs.length=T.args.length then standsL gs T.args kn else (false,kn)
noncomputable def standsL:List Ty→List Ty→List (Int × Ty)→Bool × List (Int × Ty)
 | [],_,kn=>(true,kn)
 | _ :: _,[],kn=>(false,kn)
 | g :: gs,t :: ts,kn=>if (standsT g t kn).1=true then standsL gs ts (standsT g t kn).2 else (false,(standsT g t kn).2)
end
mutual
def meetsT (Q:Int→Ty→Prop):Ty→Ty→Prop
 | .mk k n _ gs,T=>if k=1 then Q n T else meetsL Q gs T.args
def meetsL (Q:Int→Ty→Prop):List Ty→List Ty→Prop
 | [],_=>True
 | _ :: _,[]=>True
 | g :: gs,t :: ts=>meetsT Q g t∧meetsL Q gs ts
end
noncomputable def instT (G T:Ty):Bool:=rightT G && (rightT T && (standsT G T []).1)
end Go.Typ
namespace Go.Proofs.YtaalbcfpacpgfaaGreat
open Go.RowKit Go.Lib Go.Vfs Go.Par Go.Typ Go.Shelf
structure BX (w:World) (b:Nat) (T:Ty) (A:Option Addr) (cc:Nat) (W:World):Prop where
 box:W.heap[b]? = some (.cells #[.int .i64 T.kind,.int .i64 T.num,.string T.name,.slice A T.args.length cc] 61 (0,0))
 ty:TyAt (· < W.heap.size) W (tyV T.kind T.num T.name A T.args.length cc) T
 below:Below w.heap.size w W
theorem BX.t {w:World} {b:Nat} {T:Ty} {A:Option Addr} {cc:Nat} {W W':World} (h:BX w b T A cc W) (hb:Below W.heap.size W W'):BX w b T A cc W' :=
 ⟨(hb.block _ (lt_blk h.box)).trans h.box,h.ty.blw hb,h.below.trans (hb.mono h.below.size)⟩
theorem BX.new {w W:World} {T:Ty} {A:Option Addr} {cc:Nat} (hb:Below w.heap.size w W) (hT:TyAt (· < W.heap.size) W (tyV T.kind T.num T.name A T.args.length cc) T) :
  BX w W.heap.size T A cc (W.alloc (.cells #[.int .i64 T.kind,.int .i64 T.num,.string T.name,.slice A T.args.length cc] 61)) :=
 ⟨heap_alloc_new _ _,hT.blw ((Below.refl _ _).alloc (Nat.le_refl _) _),hb.trans (((Below.refl _ _).alloc (Nat.le_refl _) _).mono hb.size)⟩
end Go.Proofs.YtaalbcfpacpgfaaGreat
namespace Go.Typ
open Go.RowKit Go.Lib Go.Vfs Go.Par
def metV (met:List Int) (n:Int):List Int:=if n∈met then met else met ++ [n]
mutual
def closeT:Ty→List Int→Ty × List Int
 | .mk k n s ts,met=>if k=1 then (.mk 1 (met.idxOf n) ⟨#[]⟩ [],metV met n) else (.mk k 0 s (closeL ts met).1,(closeL ts met).2)
def closeL:List Ty→List Int→List Ty × List Int
 | [],met=>([],met)
 | t :: ts,met=>((closeT t met).1 :: (closeL ts (closeT t met).2).1,(closeL ts (closeT t met).2).2)
end
theorem closeT_eq (T:Ty) (met:List Int):closeT T met=if T.kind=1 then (.mk 1 (met.idxOf T.num) ⟨#[]⟩ [],metV met T.num) else (.mk T.kind 0 T.name (closeL T.args met).1,(closeL T.args met).2):=by
 obtain ⟨k,n,s,ts⟩:=T;rw [closeT];rfl
theorem closeL_step {ts:List Ty} {k:Nat} (hk:k < ts.length) (met:List Int):closeL (ts.drop k) met=((closeT ts[k] met).1 :: (closeL (ts.drop (k+1)) (closeT ts[k] met).2).1,(closeL (ts.drop (k+1)) (closeT ts[k] met).2).2):=by
 rw [List.drop_eq_getElem_cons hk,closeL]
theorem idxOf_new {n:Int} {met:List Int} (h:n ∉ met):met.idxOf n=met.length:=List.idxOf_eq_length h
theorem metV_len (met:List Int) (n:Int):(metV met n).length≤met.length+1:=by
 unfold metV;split <;> simp
theorem closeL_len2:∀ (ts:List Ty),(∀ t∈ts,∀ met:List Int,(closeT t met).2.length≤met.length+t.parts)→∀ met:List Int,(closeL ts met).2.length≤met.length+partsL ts
 | [],_,met=>by simp [closeL]
 | t :: ts,h,met=>by
  rw [closeL,partsL]
  have h1:=h t (by simp) met
  have h2:=closeL_len2 ts (fun x hx=>h x (by simp [hx])) (closeT t met).2
  simp only
  omega
theorem closeT_len (T:Ty):∀ met:List Int,(closeT T met).2.length≤met.length+T.parts:=by
 induction T using Ty.ind with
 | h T ih =>
  intro met
  rw [closeT_eq]
  have hp:=T.parts_pos
  split
  ·have:=metV_len met T.num;simp only;omega
  ·have:=closeL_len2 T.args (fun t ht=>by obtain ⟨i,hi,rfl⟩:=List.getElem_of_mem ht;exact ih i hi) met
   have:=T.parts_eq
   simp only
   omega
end Go.Typ
namespace Go.Proofs.YtaalbcfpacpgfaaGreat
open Go.RowKit Go.Lib Go.Vfs Go.Par Go.Typ Go.Shelf
def closeR (T:Ty):Ty:=if rightT T then (closeT T []).1 else zeroT
theorem intEQ:Elem Tryz.prog 67 3 (.int .i64 0):=elem_of (b:=8) Tryz.underlying67 (by kernel_rfl) (by decide) rfl
theorem metV_in {met:List Int} {n:Int} (h:n∈met):metV met n=met:=by unfold metV;rw [if_pos h]
theorem metV_out {met:List Int} {n:Int} (h:n ∉ met):metV met n=met ++ [n]:=by unfold metV;rw [if_neg h]
set_option maxRecDepth 20000 in
set_option maxHeartbeats 2000000 in
theorem vars_any (B:Nat) (T:Ty):∀ (met:List Int) (mv v:Value) (w:World),B≤w.heap.size→TyAt (· < B) w v T→Par.Own w B 3 mv (ints met)→met.length+T.parts≤1000000000 →
  Calls Tryz.prog 186 #[mv,v] w fun e w'=>∃ v',e=.returned v'∧Par.Own w' B 3 v' (ints (closeT T met).2)∧Gr w w' mv v':=by
 induction T using Ty.ind with
 | h T ih =>
  intro met mv v w hB hT hO hp
  have IH:=Lib.hid ih
  clear ih
  obtain ⟨A,c,rfl,hc,hm,hn⟩:=hT.form
  obtain ⟨Am,cm,rfl⟩:=hO.form
  rw [ints_length] at hO ⊢
  have hla:T.args.length≤1000000000:=by have:=length_parts T.args;rw [T.parts_eq] at hp;omega
  have hml:met.length≤1000000000:=by omega
  obtain ⟨W1,hW1⟩:∃ W1,W1=w.alloc (.cells #[.int .i64 T.kind,.int .i64 T.num,.string T.name,.slice A T.args.length c] 61):=⟨_,rfl⟩
  have hb1:Below w.heap.size w W1:=by rw [hW1];exact (Below.refl _ _).alloc (Nat.le_refl _) _
  have hbx:W1.heap[w.heap.size]? = some (.cells #[.int .i64 T.kind,.int .i64 T.num,.string T.name,.slice A T.args.length c] 61 (0,0)):=by rw [hW1];exact heap_alloc_new _ _
  have hz1:W1.heap.size=w.heap.size+1:=by rw [hW1];simp
  have hT1:TyAt (· < B) W1 (tyV T.kind T.num T.name A T.args.length c) T:=hT.keep fun g hg=>⟨hg,hb1.block g (by omega)⟩
  have hO1:=hO.below hb1
  have HBX:=Lib.hid hbx;have HP:=Lib.hid hp;have HZ1:=Lib.hid hz1;have HT1:=Lib.hid hT1;have HB1:=Lib.hid hb1;have HO1:=Lib.hid hO1;have HB:=Lib.hid hB
  obtain ⟨y0,y1,y2,y3⟩:=box4 hbx
  rw [hW1] at y0 y1 y2 y3
  have hol:=hO.lt
  clear hT hO hbx hp hT1 hO1 hb1 hz1 hc hm hn
  unfold tyV
  by_cases k1:T.kind=1
  ·have hce:(closeT T met).2=metV met T.num:=by rw [closeT_eq,if_pos k1]
   rw [hce]
   have K1:=Lib.hid k1
   have h1:(T.kind == 1)=true:=by simp [k1]
   rw [k1] at h1 y0 y1 y2 y3 hW1 ⊢
   clear hce
   go_enter Tryz.func186,Tryz.ntmps186
   go_wp2
   rw [←hW1]
   clear hW1 y0 y1 y2 y3 h1 k1
   go_loopw [5] (fun iv W=>∃ (k:Nat),k≤met.length∧iv=.int .i64 k∧Hid (T.num ∉ met.take k)∧Hid (Below W1.heap.size W1 W)) (fun iv _=>met.length - (RowKit.intOf iv).toNat)
   case atStart=>exact ⟨0,by omega,rfl,Lib.hid (by simp),Lib.hid (Below.refl _ _)⟩
   case round =>
    obtain ⟨k,hk,rfl,HA,HBW⟩:=hrel
    have hown:=HO1.out.below HBW.out
    have hseg:=hown.seg.open_ints
    obtain ⟨A0,c0,e0,hc0,hm0,hat⟩:=hseg
    injection e0 with e1 _ e2
    subst e1 e2
    obtain ⟨y0,y1,y2,y3⟩:=box4 ((HBW.out.block _ (by have:=HZ1.out;omega)).trans HBX.out)
    have HOW:=Lib.hid hown
    clear hown
    by_cases hlt:k < met.length
    ·obtain ⟨b,off,x,rfl,hb,hx,HX⟩:=hat.int hlt
     have hgk:met.getD k 0=met[k]:=by rw [List.getD_eq_getElem?_getD,List.getElem?_eq_getElem hlt];rfl
     have HGK:Hid (x=met[k]):=Lib.hid (by rw [←HX.out,hgk])
     have HTK:Hid (met.take (k+1)=met.take k ++ [met[k]]):=Lib.hid (by rw [List.take_succ_eq_append_getElem hlt])
     clear hgk hat
     go_wp2_with fail
     go_quiet (fail)
     by_cases he:x=T.num
     ·have HE:Hid (metV met T.num=met):=Lib.hid (metV_in (by rw [←he,HGK.out];exact List.getElem_mem hlt))
      have heq:(x == T.num)=true:=by simp [he]
      clear he
      go_wp2
      go_ret
      rw [HE.out]
      exact ⟨_,rfl,HOW.out.drewN _,(Gr.of_below HB1.out _).trans (Gr.of_below (below_drewNQ HBW.out _) _)⟩
     ·have HNI:Hid (T.num ∉ met.take (k+1)):=Lib.hid (by
       rw [HTK.out]
       intro h
       rcases List.mem_append.1 h with h|h
       ·exact HA.out h
       ·rw [List.mem_singleton.1 h] at he;exact he HGK.out)
      have heq:(x == T.num)=false:=by simp [he]
      clear he
      go_wp2
      go_roundw
      case rel=>exact ⟨k+1,by omega,by go_num,HNI,Lib.hid (below_drewNQ HBW.out _)⟩
      case measure=>simp [RowKit.intOf];omega
    ·have hkl:k=met.length:=by omega
     have HNI:Hid (metV met T.num=met ++ [T.num]):=Lib.hid (metV_out (by have:=HA.out;rw [hkl,List.take_length] at this;exact this))
     have hal:∀ o,Par.Own (wr.alloc o) B 3 _ (ints met):=fun o=>HOW.out.alloc o
     have hsg:∀ x:Int,Seg (wr.alloc (.cells #[.int .i64 x] 3)) (wr.heap.size+1) (.slice (some ⟨wr.heap.size,0,none⟩) 1 1) (ints [x]):=fun x=>Seg.new wr 3 #[.int .i64 x] (ints [x]) rfl (by simp [ints,maxLen])
     have hzr:=HBW.out.size
     clear hat
     go_wp2_with (at_builtin;refine wpList_app _ rfl _ _ _ rfl B 3 _ intEQ _ _ rfl (hal _) _ _ _ rfl (hsg _) (one_ints _) ?c1 ?c2 ?_)
     case c1=>rw [ints_length];simp [ints];omega
     case c2=>have:=HZ1.out;have:=HB.out;simp;omega
     intro v3 w3 hown3 hg3 hat3
     have HE:Hid (Par.Own w3 B 3 v3 (ints (met ++ [T.num]))):=Lib.hid (by rw [ints_append];exact hown3)
     have HBF:Hid (Gr w w3 (.slice Am met.length cm) v3):=Lib.hid (((Gr.of_below HB1.out _).trans (Gr.of_below HBW.out _)).trans (Gr.app hg3 (by rw [World.size_alloc];exact hat3)))
     clear hown3 hg3 hat3 hal hsg
     go_wp2
     go_ret
     rw [HNI.out]
     exact ⟨_,rfl,HE.out,HBF.out⟩
  ·have hce:(closeT T met).2=(closeL T.args met).2:=by rw [closeT_eq,if_neg k1]
   rw [hce]
   have h1:(T.kind == 1)=false:=by simp [k1]
   clear hce k1
   go_enter Tryz.func186,Tryz.ntmps186
   go_wp2
   rw [←hW1]
   clear hW1 y0 y1 y2 y3 h1
   have HOL:Hid (∀ g,(Value.slice Am met.length cm).ownBlock=some g→B≤g∧g < w.heap.size):=Lib.hid hol
   clear hol
   go_loopw [0,6] (fun sv iv W=>∃ (k:Nat) (mt:List Int),k≤T.args.length∧iv=.int .i64 k∧Hid (Par.Own W B 3 sv (ints mt))∧Hid ((closeL (T.args.drop k) mt).2=(closeL T.args met).2)∧Hid (mt.length+partsL (T.args.drop k)≤met.length+partsL T.args)∧Hid (Gr W1 W (.slice Am met.length cm) sv)) (fun _ iv _=>T.args.length - (RowKit.intOf iv).toNat)
   case atStart=>exact ⟨0,met,by omega,rfl,HO1,Lib.hid (by rw [List.drop_zero]),Lib.hid (by rw [List.drop_zero];exact Nat.le_refl _),Lib.hid (Gr.refl _ _)⟩
   case round =>
    obtain ⟨k,mt,hk,rfl,HOW,HST,HLE,HGR⟩:=hrel
    have hz1:=HZ1.out
    have hB:=HB.out
    have hzr:=HGR.out.1.size
    have hgb:=HGR.out.below (B:=B) (by omega) (fun g e=>(HOL.out g e).1)
    obtain ⟨y0,y1,y2,y3⟩:=box4 ((HGR.out.block (g:=w.heap.size) (by omega) (fun e=>by have:=(HOL.out _ e).2;omega)).trans HBX.out)
    obtain ⟨As,cs,es⟩:=HOW.out.form
    subst es
    by_cases hlt:k < T.args.length
    ·have hTr:TyAt (· < B) wr (tyV T.kind T.num T.name A T.args.length c) T:=HT1.out.keep fun g hg=>⟨hg,hgb.block g hg⟩
     obtain ⟨b,off,A',c',rfl,hb,ht,x0,x1,x2,x3⟩:=hTr.arg hlt
     have hps:=partsL_step hlt
     have hst:=HST.out
     rw [closeL_step hlt] at hst
     have hca:=IH.out k hlt mt _ _ wr (by omega) ht HOW.out (by have:=HLE.out;have:=HP.out;have:=T.parts_eq;omega)
     have hml:=closeT_len T.args[k] mt
     have HNX:Hid ((closeL (T.args.drop (k+1)) (closeT T.args[k] mt).2).2=(closeL T.args met).2):=Lib.hid hst
     have HLX:Hid ((closeT T.args[k] mt).2.length+partsL (T.args.drop (k+1))≤met.length+partsL T.args):=Lib.hid (by have:=HLE.out;omega)
     clear ht hTr hst hps hml
     generalize (closeT T.args[k] mt).2=mt2 at *
     generalize T.args[k]=V at *
     unfold tyV at hca
     have HCA:=Lib.hid hca
     obtain ⟨ml,hml⟩:∃ ml,ml=(ints mt).length:=⟨_,rfl⟩
     have HMLE:=Lib.hid hml
     rw [←hml] at HCA HOW HGR ⊢
     clear hca hml hgb
     go_wp2_with fail
     refine HCA.out.mono ?_
     rintro e w3 ⟨v3,rfl,hO3,hg3⟩
     have HO3:=Lib.hid hO3
     have HG3:=Lib.hid (HGR.out.trans hg3)
     clear hO3 hg3
     go_wp2
     go_roundw
     case rel=>exact ⟨k+1,mt2,by omega,by go_num,HO3,HNX,HLX,HG3⟩
     case measure=>simp [RowKit.intOf];omega
    ·have hkl:k=T.args.length:=by omega
     have hmt:mt=(closeL T.args met).2:=by
      have:=HST.out
      rw [hkl,List.drop_length,closeL] at this
      exact this
     have HE:Hid (Par.Own wr B 3 (.slice As (ints mt).length cs) (ints (closeL T.args met).2)∧Gr w wr (.slice Am met.length cm) (.slice As (ints mt).length cs)):=Lib.hid ⟨by rw [←hmt];exact HOW.out,(Gr.of_below HB1.out _).trans HGR.out⟩
     obtain ⟨ml,hml⟩:∃ ml,ml=(ints mt).length:=⟨_,rfl⟩
     rw [←hml] at HE ⊢
     clear hmt hml hgb HOW HGR
     go_wp2
     go_ret
     exact ⟨_,rfl,HE.out.1,HE.out.2⟩
end Go.Proofs.YtaalbcfpacpgfaaGreat
