/- Index: the iterator over the entries. -/
import Derived.Test.YtaalbcfpacpgfaaGreatZaI6
set_option linter.unusedVariables false
set_option linter.unusedSimpArgs false
namespace Go.Proofs.YtaalbcfpacpgfaaGreat
open Go.RowKit Go.Maps Go.Sort Go.Shelf
theorem mapsKeysE (mb:Option Nat) (W:World):CallsIn Fence.wide 5 Tryz.prog 106 #[.map mb] W fun e w'=>e=.returned (.func (.func 134) #[] #[.pointer (some ⟨W.heap.size,0,none⟩)])∧w'=W.alloc (.cells #[.map mb] 112) :=
 AnyZ.keys_in Tryz.keys106 Fence.wide 5 trivial rfl mb W
set_option maxHeartbeats 1000000 in
theorem sortedKeysE {H:Type} (b nn:Nat) (D0:DataW H) (R:Value→Option (DataW H × List MemPlace)) (w:World) (hown:w.ownsMap Tryz.prog 9 R b nn D0) (hmax:Maps.size D0≤maxLen) (hbytes:Maps.size D0 * 16≤140737488355328) :
  CallsIn Fence.wide 5 Tryz.prog 105 #[.func (.func 134) #[] #[.pointer (some ⟨w.heap.size,0,none⟩)]] (w.alloc (.cells #[.map (some b)] 112)) fun e w'=>∃ (v:Value) (ss:List (List UInt8)),e=.returned v∧ss.Perm (strKeys D0) ∧
   w'.ownsRow (w.alloc (.cells #[.map (some b)] 112)).heap.size 9 1 v ss.length ((ss.mergeSort (fun x y=>decide (x≤y))).map encStr)∧(v=.slice none 0 0↔ss=[])∧Below (w.alloc (.cells #[.map (some b)] 112)).heap.size (w.alloc (.cells #[.map (some b)] 112)) w':=by
 have hbl:=hown.lt
 have hseq:SeqGives Fence.wide 2 Tryz.prog 134 #[.pointer (some ⟨w.heap.size,0,none⟩)] encStr (fun ss=>ss.Perm (strKeys D0)) (Maps.size D0) (w.alloc (.cells #[.map (some b)] 112)) :=
  AnyZ.keys_gives (ρ:=Tryz.keys106_ren) { Tryz.keys106 with } Fence.wide _ trivial rfl (by omega) w.heap.size b nn D0 _ (by simp) (by simp) (by
   obtain ⟨es,clock,hb,Ft,hs,hD⟩:=hown
   exact ⟨es,clock,(Below.heap_alloc _ _ b hbl).trans hb,Ft,hs,hD⟩)
 exact AnyZ.sorted_in Tryz.sorted105 Fence.wide 5 trivial trivial trivial trivial rfl (by omega) (sortsK _) (enters_of Tryz.func133 (by kernel_rfl) rfl) 134 #[.pointer (some ⟨w.heap.size,0,none⟩)] trivial (enters_of Tryz.func134 (by kernel_rfl) rfl) _ _ hmax hbytes _ hseq
open Go.RowKit Go.Lib Go.Vfs Go.Par Go.Typ Go.Shelf Go.Ix
attribute [local go_sem] Oper.semAt_some
theorem sorted_keysX {xs:List EnR} (h:Rising keyX xs) {ss:List (List UInt8)} (hp:ss.Perm (xs.map keyX)):ss.mergeSort (fun x y=>decide (x≤y))=xs.map keyX:=by
 apply List.Perm.eq_of_pairwise (le:=fun a b:List UInt8=>a≤b)
 ·intro a b _ _ h1 h2;exact List.le_antisymm h1 h2
 ·have:=List.pairwise_mergeSort (le:=fun x y:List UInt8=>decide (x≤y)) (fun a b c h1 h2=>by simp at h1 h2 ⊢;exact List.le_trans h1 h2) (fun a b=>by simp;exact List.le_total a b) ss
  exact this.imp (fun h=>by simpa using h)
 ·rw [List.pairwise_map]
  exact h.imp (fun {a b} hab=>List.not_lt.1 (fun hlt=>by
   have h1:=before_lt.1 hab
   have h2:=before_lt.2 hlt
   rw [before_asymm hab] at h2;cases h2))
 ·exact (List.mergeSort_perm ss _).trans hp
theorem strKeys_datE (xs:List EnR):strKeys (datE xs)=xs.map keyX:=by
 unfold strKeys datE
 simp only [List.map_map]
 rfl
theorem keys_row {W1:World} {v:Value} {ss:List (List UInt8)} {xs:List EnR} {base:Nat} (h:Rising keyX xs) (hS:ss.Perm (strKeys (datE xs))) (hrow:W1.ownsRow base 9 1 v ss.length ((ss.mergeSort (fun x y=>decide (x≤y))).map Go.Proofs.encStr)) :
  ∃ A c,v=.slice A xs.length c∧c≤9223372036854775807∧xs.length≤c∧(0 < xs.length→∃ g cur,A=some ⟨g,0,none⟩∧base≤g∧W1.heap[g]? = some (.cells cur 9 (0,0))∧∀ k (hk:k < xs.length),cur[k]? = some (.string ((xs[k]'hk).e.uri))):=by
 rw [strKeys_datE] at hS
 have hl:ss.length=xs.length:=by have:=hS.length_eq;simpa using this
 rw [sorted_keysX h hS] at hrow
 rcases hrow.2 with ⟨h1,h2⟩|⟨g,cap,cur,h1,h2,h3,h4,h5,h6,h7⟩
 ·have h0:xs.length=0:=by omega
  exact ⟨none,0,by rw [h1,h0],by omega,by omega,fun hp=>by omega⟩
 ·refine ⟨_,cap,by rw [h1,hl],by simpa [maxLen] using h5,by omega,fun _=>⟨g,cur,rfl,h2,h3,fun k hk=>?_⟩⟩
  have h8:=congrArg (·[k]?) h7
  simp only [List.getElem?_take] at h8
  rw [if_pos (by omega)] at h8
  rw [Array.getElem?_toList] at h8
  rw [h8]
  simp [hk,keyX,keyE,ba_toArray]
abbrev EntOf (xs:List EnR):={ x:EnR // x∈xs }
def encE {xs:List EnR} (x:EntOf xs):Array Value:=#[x.1.v]
theorem attachX_succ (xs:List EnR) (k:Nat) (hk:k < xs.length):xs.attach.take (k+1)=xs.attach.take k ++ [⟨xs[k],List.getElem_mem hk⟩]:=by
 rw [List.take_succ_eq_append_getElem (by simpa using hk)]
 simp
set_option maxRecDepth 100000 in
set_option maxHeartbeats 2000000 in
theorem all_stops (w:World) (px pj mb:Nat) (xs:List EnR) (S:Nat→Prop) (h:IxAt w px pj mb xs S) (hxl:xs.length≤100000) (hnl:∀ x∈xs,x.e.uri.size≤64) (Bn n₀:Nat) (hBn:Bn < n₀) (hn₀:n₀≤w.heap.size) (hc:w.heap[Bn]? = some (.cells #[.pointer (some ⟨px,0,none⟩)] 40 (0,0)))
  (hF:px < n₀∧mb < n₀) (Ex:World→Nat→Prop) (hEx:∀ W,Below w.heap.size w W→∀ k,Ex W k→k < w.heap.size∧k≠Bn∧k≠px∧k≠mb) :
  SeqStopsK Fence.wide 6 Tryz.prog 104 #[.pointer (some ⟨Bn,0,none⟩)] (encE (xs:=xs)) (KpE n₀ Ex) (fun ys=>ys=xs.attach) (fun pre=>pre <+: xs.attach) xs.length w:=by
 intro l J Jx W hW hJ hJx hY h0
 have hlt:=h.lt
 have hWp:W.heap[px]? = some (.cells #[.pointer (some ⟨pj,0,none⟩),.map (some mb)] 114 (0,0)):=(hW.block px hlt.1).trans h.head
 have hWm:W.ownsMap Tryz.prog 9 heldR mb xs.length (datE xs):=ownsMap_block h.map (hW.block mb hlt.2)
 have hWB:W.heap[Bn]? = some (.cells #[.pointer (some ⟨px,0,none⟩)] 40 (0,0)):=(hW.block Bn (by omega)).trans hc
 have cB:W.cell? ⟨Bn,0,none⟩=some (.pointer (some ⟨px,0,none⟩)):=by simp [World.cell?,hWB]
 have cp:W.cell? ⟨px,1,none⟩=some (.map (some mb)):=by simp [World.cell?,hWp]
 have hsz:Maps.size (datE xs)=xs.length:=by unfold datE;simp [Maps.size_eq]
 have hfK:Fence.wide.fn 106:=trivial
 have hfS:Fence.wide.fn 105:=trivial
 have HRS:=Lib.hid h.rising
 have HNP:=Lib.hid (show px≠mb from h.pm)
 have HWP:=Lib.hid hWp;have HWM:=Lib.hid hWm
 have HSZ:=Lib.hid hsz
 have HW:=Lib.hid hW
 have HWB:=Lib.hid hWB
 have HEX:=Lib.hid hEx
 have HFF:=Lib.hid hF
 have HH:=Lib.hid h
 clear hWp hWm hsz hW hWB hEx hF hc h hlt
 refine callsIn_of_wp Tryz.func104 rfl trivial ?_ rfl
 simp only [Tryz.ntmps104,List.size_toArray,List.length_cons,List.length_nil,Nat.reduceAdd,Nat.reduceSub,Array.replicate_succ,Array.replicate_zero,List.push_toArray,List.append_toArray,List.nil_append,List.cons_append]
 gi_wp2_with (first
  | (gi_at_call 106;refine (mapsKeysE _ _).mono ?_;rintro e w' ⟨rfl,rfl⟩)
  | (gi_at_call 105;refine (sortedKeysE mb xs.length (datE xs) heldR W HWM.out (by rw [HSZ.out];unfold maxLen;omega) (by rw [HSZ.out];omega)).mono ?_;rintro e W1 ⟨v,ss,rfl,hS,hrow,hnil,hb⟩;obtain ⟨A1,c1,rfl,hcm,hcl,hcur⟩:=keys_row HRS.out hS hrow;clear hS hrow hnil))
 have hbW:Below W.heap.size W W1:=((Below.refl _ W).alloc (Nat.le_refl _) _).trans (hb.mono (by simp))
 have hJ1:J [] W1:=hJ _ _ _ none h0 ⟨hbW.os,hbW.tape,hbW.output,hbW.size,fun k hk _=>hbW.block k hk⟩ (fun r e=>by cases e)
 have HBW:=Lib.hid hbW
 have HCUR:=Lib.hid hcur
 clear hb hbW hcur cB cp
 gi_loopw [12] (fun i wr=>∃ k:Nat,k≤xs.length∧i=.int .i64 k∧KpE n₀ Ex W1 wr∧J (xs.attach.take k) wr) (fun i _=>xs.length - (intOf i).toNat)
 case atStart=>exact ⟨0,by omega,rfl,kpE_refl _ _ _,hJ1⟩
 case round =>
  obtain ⟨k,hk,rfl,hkp,hJk⟩:=hrel
  have hWs:=HW.out.size
  have hW1s:=HBW.out.size
  have hb01:Below w.heap.size w W1:=HW.out.trans (HBW.out.mono hWs)
  by_cases hlt:k < xs.length
  ·obtain ⟨g,cur,rfl,hg,hgb,hget⟩:=HCUR.out (by omega)
   have hold:∀ i o,i < n₀→W.heap[i]? = some o→¬ Ex W1 i→wr.heap[i]? = some o:=fun i o hi ho hn=>hkp.2.1 i o ((HBW.out.block i (by omega)).trans ho) (.inl hi) hn
   have hBr:=hold Bn _ hBn HWB.out (fun he=>(HEX.out W1 hb01 _ he).2.1 rfl)
   have hpr:=hold px _ HFF.out.1 HWP.out (fun he=>(HEX.out W1 hb01 _ he).2.2.1 rfl)
   have hmr:wr.ownsMap Tryz.prog 9 heldR mb xs.length (datE xs):=by
    obtain ⟨es,clock,hm,r⟩:=HWM.out
    exact ⟨es,clock,hold mb _ HFF.out.2 hm (fun he=>(HEX.out W1 hb01 _ he).2.2.2 rfl),r⟩
   have hgr:wr.heap[g]? = some (.cells cur 9 (0,0)):=hkp.2.1 g _ hgb (.inr rfl) (fun he=>by have:=(HEX.out W1 hb01 _ he).1;simp at hg;omega)
   obtain ⟨x,hx⟩:∃ x,x=xs[k]:=⟨_,rfl⟩
   have hxm:x∈xs:=by rw [hx];exact List.getElem_mem hlt
   have hgk:=hget k hlt
   rw [←hx] at hgk
   have cB:wr.cell? ⟨Bn,0,none⟩=some (.pointer (some ⟨px,0,none⟩)):=by simp [World.cell?,hBr]
   have cp:wr.cell? ⟨px,1,none⟩=some (.map (some mb)):=by simp [World.cell?,hpr]
   have cg:wr.cell? ⟨g,k,none⟩=some (.string x.e.uri):=by simp [World.cell?,hgr,hgk]
   have hlook:(Instr.lookup 112 (.map (some mb)) (.string x.e.uri) false).run Tryz.prog wr=.ok x.v wr:=by
    obtain ⟨v,ps,hrun,hv⟩:=hmr.lookup strK Tryz.underlying112 (zeroEn_ok _) (zd:=.held zeroEn) (zp:=[]) rfl (keyStr x.e.uri (by have:=hnl x hxm;omega))
    rw [hrun]
    rw [datE_at] at hv
    rw [heldR_at hv]
    have:findL keyX (keyX x) xs=some x:=HRS.out.findL hxm
    unfold valX
    rw [show x.e.uri.data.toList=keyX x from rfl,this]
   have hpre:(xs.attach.take k).length < xs.length:=by simp;omega
   obtain ⟨fn,tmps,assign,body,hy,hR⟩:=hY (xs.attach.take k) ⟨x,hxm⟩ wr hJk hpre
   dsimp only [encE] at hy
   have HSU:Hid (xs.attach.take (k+1)=xs.attach.take k ++ [⟨x,hxm⟩]):=Lib.hid (by rw [attachX_succ xs k hlt];congr 2;exact Subtype.ext hx.symm)
   have HKP:=Lib.hid hkp;clear hkp
   clear hold hBr hpr hmr hgr hget hgk hx hgb
   gi_wp2
   refine hR.mono ?_
   rintro e W3 (⟨rfl,hJ3,hk3⟩|⟨rfl,hJx3⟩)
   ·rw [←HSU.out] at hJ3
    gi_wp2
    go_roundw
    case rel=>exact ⟨k+1,by omega,by go_num,kpE_t HKP.out hk3,hJ3⟩
    case measure=>simp [intOf];omega
   ·rw [←HSU.out] at hJx3
    gi_wp2
    refine bodyPost_ret (results_none rfl _ _ _) rfl ?_
    exact ⟨⟨_,rfl⟩,.inr ⟨_,List.take_prefix _ _,hJx3⟩⟩
  ·have hkl:k=xs.length:=by omega
   have hJe:J xs.attach wr:=by rw [hkl] at hJk;rwa [List.take_of_length_le (by simp)] at hJk
   clear hkp
   gi_wp2
   go_end0
   exact ⟨⟨_,rfl⟩,.inl ⟨_,rfl,hJe⟩⟩
theorem all_any (px:Nat) (w:World):Calls Tryz.prog 60 #[.pointer (some ⟨px,0,none⟩)] w fun e w' =>
  e=.returned (.func (.func 104) #[] #[.pointer (some ⟨w.heap.size,0,none⟩)])∧w.alloc (.cells #[.pointer (some ⟨px,0,none⟩)] 40)=w':=by
 go_enter Tryz.func60,Tryz.ntmps60
 go_wp2
 go_ret
 exact ⟨rfl,rfl⟩
end Go.Proofs.YtaalbcfpacpgfaaGreat
