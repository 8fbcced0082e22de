/- Merged of It V13 V14 VQ VR VS VT VU VW VX V15. -/
import Derived.RangeFuncNested
import Derived.RangeFuncBound
import Derived.RangeFuncCalls
import Derived.RangeFuncLeaves
import Derived.RangeFuncFrom
import Derived.Shelf.Abstract
import Derived.OwnWalkIn
import Derived.TacticsInMore
import Derived.LoopNIn
import Derived.LoopIn
import Derived.OrdersIn
import Derived.RangeFuncWrites
import Derived.Maps.OwnIn
import Derived.Test.YtaalbcfpacpgfaaGreatZaLays
import Derived.Test.YtaalbcfpacpgfaaGreatZaM1
set_option linter.unusedVariables false
set_option linter.unusedSimpArgs false
namespace Go.Proofs.YtaalbcfpacpgfaaGreat
open Go.RowKit Go.Maps Go.Sort Go.Shelf
theorem sortsK (m : Nat) : AnyZ.SortsIn Tryz.prog Tryz.sorted105_ren Fence.wide m :=
  ⟨fun blk off cap ss W hH hblk hsz => callsIn_wide.2 (AnyM.slices_Sort_string Tryz.sort133 blk off cap ss W hH hblk hsz),
   fun p cap W => callsIn_wide.2 (AnyM.slices_Sort_string_none Tryz.sort133 p cap W)⟩
theorem mapsKeys (mb:Option Nat) (W:World):CallsIn Fence.wide 5 Tryz.prog 112 #[.map mb] W fun e w'=>e=.returned (.func (.func 143) #[] #[.pointer (some ⟨W.heap.size,0,none⟩)])∧w'=W.alloc (.cells #[.map mb] 89) :=
 AnyZ.keys_in Tryz.keys112 Fence.wide 5 trivial rfl mb W
set_option maxHeartbeats 1000000 in
theorem sortedKeys {H:Type} (b nn:Nat) (D0:DataW H) (R:Value→Option (DataW H × List MemPlace)) (w:World) (hown:w.ownsMap Tryz.prog 9 R b nn D0) (hmax:Maps.size D0≤maxLen) (hbytes:Maps.size D0 * 16≤140737488355328) :
  CallsIn Fence.wide 5 Tryz.prog 105 #[.func (.func 143) #[] #[.pointer (some ⟨w.heap.size,0,none⟩)]] (w.alloc (.cells #[.map (some b)] 89)) fun e w'=>∃ (v:Value) (ss:List (List UInt8)),e=.returned v∧ss.Perm (strKeys D0) ∧
   w'.ownsRow (w.alloc (.cells #[.map (some b)] 89)).heap.size 9 1 v ss.length ((ss.mergeSort (fun x y=>decide (x≤y))).map encStr)∧(v=.slice none 0 0↔ss=[])∧Below (w.alloc (.cells #[.map (some b)] 89)).heap.size (w.alloc (.cells #[.map (some b)] 89)) w':=by
 have hbl:=hown.lt
 have hseq:SeqGives Fence.wide 2 Tryz.prog 143 #[.pointer (some ⟨w.heap.size,0,none⟩)] encStr (fun ss=>ss.Perm (strKeys D0)) (Maps.size D0) (w.alloc (.cells #[.map (some b)] 89)) :=
  AnyZ.keys_gives (ρ:=Tryz.keys112_ren) { Tryz.keys112 with } Fence.wide _ trivial rfl (by omega) w.heap.size b nn D0 _ (by simp) (by simp) (by
   obtain ⟨es,clock,hb,Ft,hs,hD⟩:=hown
   exact ⟨es,clock,(Below.heap_alloc _ _ b hbl).trans hb,Ft,hs,hD⟩)
 exact AnyZ.sorted_in Tryz.sorted105 Fence.wide 5 trivial trivial trivial trivial rfl (by omega) (sortsK _) (enters_of Tryz.func133 (by kernel_rfl) rfl) 143 #[.pointer (some ⟨w.heap.size,0,none⟩)] trivial (enters_of Tryz.func143 (by kernel_rfl) rfl) _ _ hmax hbytes _ hseq
open Go.RowKit Go.Lib Go.Vfs Go.Par Go.Shelf
attribute [local go_sem] Oper.semAt_some
theorem before_lt:∀ {a b:List UInt8},bytesBefore a b=true↔a < b
 | [],[]=>by simp [bytesBefore]
 | [],_ :: _=>by simp [bytesBefore]
 | _ :: _,[]=>by simp [bytesBefore]
 | a :: r,b :: s=>by
  simp only [bytesBefore,Bool.or_eq_true,Bool.and_eq_true,decide_eq_true_eq,beq_iff_eq,List.cons_lt_cons_iff,before_lt (a:=r) (b:=s)]
theorem sorted_names {xs:List FileR} (h:Rising keyR xs) {ss:List (List UInt8)} (hp:ss.Perm (xs.map keyR)):ss.mergeSort (fun x y=>decide (x≤y))=xs.map keyR:=by
 apply List.Perm.eq_of_pairwise (le:=fun a b:List UInt8=>a≤b)
 ·intro a b _ _ h1 h2;exact List.le_antisymm h1 h2
 ·have:=List.pairwise_mergeSort (le:=fun x y:List UInt8=>decide (x≤y)) (fun a b c h1 h2=>by simp at h1 h2 ⊢;exact List.le_trans h1 h2) (fun a b=>by simp;exact List.le_total a b) ss
  exact this.imp (fun h=>by simpa using h)
 ·rw [List.pairwise_map]
  exact h.imp (fun {a b} hab=>List.not_lt.1 (fun hlt=>by
   have h1:=before_lt.1 hab
   have h2:=before_lt.2 hlt
   rw [before_asymm hab] at h2;cases h2))
 ·exact (List.mergeSort_perm ss _).trans hp
theorem strKeys_dat (xs:List FileR):strKeys (dat xs)=xs.map keyR:=by
 unfold strKeys dat
 simp only [List.map_map]
 rfl
theorem names_row {W1:World} {v:Value} {ss:List (List UInt8)} {xs:List FileR} {base:Nat} (h:Rising keyR xs) (hS:ss.Perm (strKeys (dat xs))) (hrow:W1.ownsRow base 9 1 v ss.length ((ss.mergeSort (fun x y=>decide (x≤y))).map Go.Proofs.encStr)) :
  ∃ A c,v=.slice A xs.length c∧c≤9223372036854775807∧xs.length≤c∧(0 < xs.length→∃ g cur,A=some ⟨g,0,none⟩∧base≤g∧W1.heap[g]? = some (.cells cur 9 (0,0))∧∀ k (hk:k < xs.length),cur[k]? = some (.string ⟨(xs[k]'hk).f.name.toArray⟩)):=by
 rw [strKeys_dat] at hS
 have hl:ss.length=xs.length:=by have:=hS.length_eq;simpa using this
 rw [sorted_names h hS] at hrow
 rcases hrow.2 with ⟨h1,h2⟩|⟨g,cap,cur,h1,h2,h3,h4,h5,h6,h7⟩
 ·have h0:xs.length=0:=by omega
  exact ⟨none,0,by rw [h1,h0],by omega,by omega,fun hp=>by omega⟩
 ·refine ⟨_,cap,by rw [h1,hl],by simpa [maxLen] using h5,by omega,fun _=>⟨g,cur,rfl,h2,h3,fun k hk=>?_⟩⟩
  have h8:=congrArg (·[k]?) h7
  simp only [List.getElem?_take] at h8
  rw [if_pos (by omega)] at h8
  rw [Array.getElem?_toList] at h8
  rw [h8]
  simp [hk,keyR]
def KpE (n₀:Nat) (Ex:World→Nat→Prop) (W W':World):Prop :=
 W.heap.size≤W'.heap.size∧(∀ k o,W.heap[k]? = some o→(k < n₀∨o.isCells=true)→¬ Ex W k→W'.heap[k]? = some o)∧(∀ k,Ex W' k→Ex W k∨W.heap.size≤k)
theorem kpE_refl (n₀:Nat) (Ex:World→Nat→Prop) (W:World):KpE n₀ Ex W W:=⟨Nat.le_refl _,fun _ _ h _ _=>h,fun _ h=>.inl h⟩
theorem kpE_t {n₀:Nat} {Ex:World→Nat→Prop} {A B C:World} (h:KpE n₀ Ex A B) (k:KpE n₀ Ex B C):KpE n₀ Ex A C :=
 ⟨Nat.le_trans h.1 k.1,fun i o hi hc hn=>k.2.1 i o (h.2.1 i o hi hc hn) hc (fun he=>by
  rcases h.2.2 i he with h1|h1
  ·exact hn h1
  ·have:=lt_of_block hi;omega),fun i hi=>by
  rcases k.2.2 i hi with h1|h1
  ·exact h.2.2 i h1
  ·right;have:=h.1;omega⟩
theorem look_map {w:World} {xs:List FileR} {mb n:Nat} (hm:w.ownsMap Tryz.prog 9 ptrElem mb n (dat xs)) (s:ByteArray) (hs:s.size≤9223372036854775807) :
  (Instr.lookup 89 (.map (some mb)) (.string s) false).run Tryz.prog w=.ok (ptrOf xs s.data.toList) w:=by
 obtain ⟨v,ps,hrun,hv⟩:=hm.lookup strK Tryz.underlying89 (zeroPtr _) (zd:=.nil) (zp:=[]) rfl (keyStr s hs)
 rw [hrun]
 rw [dat_at] at hv
 unfold ptrOf
 cases hf:findL keyR s.data.toList xs with
 | none=>rw [hf] at hv;rw [ptrElem_nil hv]
 | some x=>rw [hf] at hv;rw [ptrElem_at hv]
abbrev FileOf (xs:List FileR):={ x:FileR // x∈xs }
def encF {xs:List FileR} (x:FileOf xs):Array Value:=#[.string ⟨x.1.f.name.toArray⟩,.pointer (some ⟨x.1.q,0,none⟩)]
theorem attach_succ (xs:List FileR) (k:Nat) (hk:k < xs.length):xs.attach.take (k+1)=xs.attach.take k ++ [⟨xs[k],List.getElem_mem hk⟩]:=by
 rw [List.take_succ_eq_append_getElem (by simpa using hk)]
 simp
set_option maxRecDepth 100000 in
set_option maxHeartbeats 2000000 in
theorem each_stops (w:World) (p:Nat) (pow:Int) (xs:List FileR) (mb:Nat) (h:FSAt w p pow xs mb) (hxl:xs.length≤100000) (hnl:∀ x∈xs,x.f.name.length≤100000) (Bn n₀:Nat) (hBn:Bn < n₀) (hn₀:n₀≤w.heap.size) (hc:w.heap[Bn]? = some (.cells #[.pointer (some ⟨p,0,none⟩)] 25 (0,0)))
  (hF:∀ k,OwnF p mb xs k→k < n₀) (Ex:World→Nat→Prop) (hEx:∀ W,Below w.heap.size w W→∀ k,Ex W k→k < w.heap.size∧k≠Bn∧¬ OwnF p mb xs k) :
  SeqStopsK Fence.wide 6 Tryz.prog 111 #[.pointer (some ⟨Bn,0,none⟩)] (encF (xs:=xs)) (KpE n₀ Ex) (fun ys=>ys=xs.attach) (fun pre=>pre <+: xs.attach) xs.length w:=by
 intro l J Jx W hW hJ hJx hY h0
 have hWF:FSAt W p pow xs mb:=h.below hW
 have hWB:W.heap[Bn]? = some (.cells #[.pointer (some ⟨p,0,none⟩)] 25 (0,0)):=(hW.block Bn (by omega)).trans hc
 have cB:W.cell? ⟨Bn,0,none⟩=some (.pointer (some ⟨p,0,none⟩)):=by simp [World.cell?,hWB]
 have cp:W.cell? ⟨p,0,none⟩=some (.map (some mb)):=by simp [World.cell?,hWF.head]
 have hsz:Maps.size (dat xs)=xs.length:=by unfold dat;simp [Maps.size_eq]
 have hfK:Fence.wide.fn 112:=trivial
 have hfS:Fence.wide.fn 105:=trivial
 have HWF:=Lib.hid hWF;clear hWF
 have HSZ:=Lib.hid hsz;clear hsz
 have HW:=Lib.hid hW;clear hW
 have HWB:=Lib.hid hWB;clear hWB
 have HEX:=Lib.hid hEx;clear hEx
 have HFF:=Lib.hid hF;clear hF
 clear hc h
 refine callsIn_of_wp Tryz.func111 rfl trivial ?_ rfl
 simp only [Tryz.ntmps111,List.size_toArray,List.length_cons,List.length_nil,Nat.reduceAdd,Nat.reduceSub,Array.replicate_succ,Array.replicate_zero,List.push_toArray,List.append_toArray,List.nil_append,List.cons_append]
 gi_wp2_with (first
  | (gi_at_call 112;refine (mapsKeys _ _).mono ?_;rintro e w' ⟨rfl,rfl⟩)
  | (gi_at_call 105;refine (sortedKeys mb xs.length (dat xs) ptrElem W HWF.out.map (by rw [HSZ.out];unfold maxLen;omega) (by rw [HSZ.out];omega)).mono ?_;rintro e W1 ⟨v,ss,rfl,hS,hrow,hnil,hb⟩;obtain ⟨A1,c1,rfl,hcm,hcl,hcur⟩:=names_row HWF.out.rising hS hrow;clear hS hrow hnil))
 have hbW:Below W.heap.size W W1:=((Below.refl _ W).alloc (Nat.le_refl _) _).trans (hb.mono (by simp))
 have hJ1:J [] W1:=hJ _ _ _ none h0 ⟨hbW.os,hbW.tape,hbW.output,hbW.size,fun k hk _=>hbW.block k hk⟩ (fun r e=>by cases e)
 have HBW:=Lib.hid hbW
 have HCUR:=Lib.hid hcur
 clear hb hbW hcur cB cp
 gi_loopw [12] (fun i wr=>∃ k:Nat,k≤xs.length∧i=.int .i64 k∧KpE n₀ Ex W1 wr∧J (xs.attach.take k) wr) (fun i _=>xs.length - (intOf i).toNat)
 case atStart=>exact ⟨0,by omega,rfl,kpE_refl _ _ _,hJ1⟩
 case round =>
  obtain ⟨k,hk,rfl,hkp,hJk⟩:=hrel
  have hWs:=HW.out.size
  have hW1s:=HBW.out.size
  have hb01:Below w.heap.size w W1:=HW.out.trans (HBW.out.mono hWs)
  by_cases hlt:k < xs.length
  ·obtain ⟨g,cur,rfl,hg,hgb,hget⟩:=HCUR.out (by omega)
   have hold:∀ i o,i < n₀→W.heap[i]? = some o→¬ Ex W1 i→wr.heap[i]? = some o:=fun i o hi ho hn=>hkp.2.1 i o ((HBW.out.block i (by omega)).trans ho) (.inl hi) hn
   have hBr:=hold Bn _ hBn HWB.out (fun he=>(HEX.out W1 hb01 _ he).2.1 rfl)
   have hpr:=hold p _ (HFF.out p (.inl rfl)) HWF.out.head (fun he=>(HEX.out W1 hb01 _ he).2.2 (.inl rfl))
   have hmr:wr.ownsMap Tryz.prog 9 ptrElem mb xs.length (dat xs):=by
    obtain ⟨es,clock,hm,r⟩:=HWF.out.map
    exact ⟨es,clock,hold mb _ (HFF.out mb (.inr (.inl rfl))) hm (fun he=>(HEX.out W1 hb01 _ he).2.2 (.inr (.inl rfl))),r⟩
   have hgr:wr.heap[g]? = some (.cells cur 9 (0,0)):=hkp.2.1 g _ hgb (.inr rfl) (fun he=>by have:=(HEX.out W1 hb01 _ he).1;simp at hg;omega)
   obtain ⟨x,hx⟩:∃ x,x=xs[k]:=⟨_,rfl⟩
   have hxm:x∈xs:=by rw [hx];exact List.getElem_mem hlt
   have hgk:=hget k hlt
   rw [←hx] at hgk
   have cB:wr.cell? ⟨Bn,0,none⟩=some (.pointer (some ⟨p,0,none⟩)):=by simp [World.cell?,hBr]
   have cp:wr.cell? ⟨p,0,none⟩=some (.map (some mb)):=by simp [World.cell?,hpr]
   have cg:wr.cell? ⟨g,k,none⟩=some (.string ⟨x.f.name.toArray⟩):=by simp [World.cell?,hgr,hgk]
   have hlook:=look_map hmr ⟨x.f.name.toArray⟩ (by have:=hnl x hxm;rw [Lib.size_eq];simp;omega)
   have hptr:ptrOf xs (⟨x.f.name.toArray⟩:ByteArray).data.toList=.pointer (some ⟨x.q,0,none⟩):=by
    have:findL keyR (keyR x) xs=some x:=HWF.out.rising.findL hxm
    unfold ptrOf
    rw [show (⟨x.f.name.toArray⟩:ByteArray).data.toList=keyR x by simp [keyR],this]
   rw [hptr] at hlook
   have hpre:(xs.attach.take k).length < xs.length:=by simp;omega
   obtain ⟨fn,tmps,assign,body,hy,hR⟩:=hY (xs.attach.take k) ⟨x,hxm⟩ wr hJk hpre
   dsimp only [encF] at hy
   have HSU:Hid (xs.attach.take (k+1)=xs.attach.take k ++ [⟨x,hxm⟩]):=Lib.hid (by rw [attach_succ xs k hlt];congr 2;exact Subtype.ext hx.symm)
   have HKP:=Lib.hid hkp;clear hkp
   clear hold hBr hpr hmr hgr hget hgk hptr hx hgb
   gi_wp2
   refine hR.mono ?_
   rintro e W3 (⟨rfl,hJ3,hk3⟩|⟨rfl,hJx3⟩)
   ·rw [←HSU.out] at hJ3
    gi_wp2
    go_roundw
    case rel=>exact ⟨k+1,by omega,by go_num,kpE_t HKP.out hk3,hJ3⟩
    case measure=>simp [intOf];omega
   ·rw [←HSU.out] at hJx3
    gi_wp2
    refine bodyPost_ret (results_none rfl _ _ _) rfl ?_
    exact ⟨⟨_,rfl⟩,.inr ⟨_,List.take_prefix _ _,hJx3⟩⟩
  ·have hkl:k=xs.length:=by omega
   have hJe:J xs.attach wr:=by rw [hkl] at hJk;rwa [List.take_of_length_le (by simp)] at hJk
   clear hkp
   gi_wp2
   go_end0
   exact ⟨⟨_,rfl⟩,.inl ⟨_,rfl,hJe⟩⟩
attribute [local go_sem] Oper.semAt_some
theorem wpListIn_app {F:Fence} {n:Nat} {P:Program} (w:World) {ops:Array Oper} {rest:List Oper} {o:Oper} {a:Act} {Q:Exit→Act→World→Prop} (hgd:o.guard=none) (s x:Operand) (t:TypeId)
  (ho:o.op=.call { callee:=.builtin .append,args:=#[s,x],argTypes:=#[t,t] })
  (base:Nat) (e:TypeId) (z:Value) (E:Elem P t e z) (v:Value) (xs:List Value) (hs:a.eval s=v) (hown:Par.Own w base e v xs)
  (B:Nat) (u:Value) (news:List Value) (hx:a.eval x=u) (hsg:Seg w B u news) (h1:∀ x∈news,x.oneCell'=true)
  (hbd:xs.length+news.length≤2147483648) (hbase:base≤w.heap.size)
  (h:∀ v' w',Par.Own w' base e v' (xs ++ news)→w.grownBy w' v.ownBlock→(v'.ownBlock=v.ownBlock∨v'.ownBlock=some w.heap.size)→wpListIn F n P ops Q rest (a.put o.dst v') w'):wpListIn F n P ops Q (o :: rest) a w:=by
 refine wpListIn_plain hgd fun K hK'=>?_
 obtain ⟨v',w',hrun,r1,r2,r3⟩:=run_app (P:=P) w base t o.type e z E v xs hown B u news hsg h1 hbd hbase
 unfold Oper.wpIn
 refine ⟨?_,?_⟩
 ·simp [Oper.about,ho,resolve,Target.leads,Sem.run_pure]
 ·rw [Oper.semAt_plain F _ _ (by rw [ho];intro c hc';cases hc')]
  simp [execOp,ho,resolve,invoke,builtin,hs,hx,hrun,Result.andThen]
  exact hK' _ _ (h v' w' r1 r2 r3)
def strs (ls:List (List UInt8)):List Value:=ls.map fun l=>.string ⟨l.toArray⟩
theorem strs_length (ls:List (List UInt8)):(strs ls).length=ls.length:=by simp [strs]
theorem strs_append (a b:List (List UInt8)):strs (a ++ b)=strs a ++ strs b:=by simp [strs]
theorem one_strs (ls:List (List UInt8)):∀ x∈strs ls,x.oneCell'=true:=by
 intro x hx
 obtain ⟨z,_,rfl⟩:=List.mem_map.1 hx
 rfl
theorem strE:Elem Tryz.prog 73 9 (.string ⟨#[]⟩):=elem_of (b:=16) Tryz.underlying73 (by kernel_rfl) (by decide) rfl
theorem each_any (p:Nat) (w:World):Calls Tryz.prog 66 #[.pointer (some ⟨p,0,none⟩)] w fun e w' =>
  e=.returned (.func (.func 111) #[] #[.pointer (some ⟨w.heap.size,0,none⟩)])∧w.alloc (.cells #[.pointer (some ⟨p,0,none⟩)] 25)=w':=by
 go_enter Tryz.func66,Tryz.ntmps66
 go_wp2
 go_ret
 exact ⟨rfl,rfl⟩
def namesOf {xs:List FileR} (pre:List (FileOf xs)):List (List UInt8):=pre.map fun x=>x.1.f.name
theorem namesOf_snoc {xs:List FileR} (pre:List (FileOf xs)) (x:FileOf xs):namesOf (pre ++ [x])=namesOf pre ++ [x.1.f.name]:=by simp [namesOf]
theorem namesOf_length {xs:List FileR} (pre:List (FileOf xs)):(namesOf pre).length=pre.length:=by simp [namesOf]
theorem namesOf_all (xs:List FileR):namesOf xs.attach=(xs.map (·.f)).map File.name:=by simp [namesOf]
def ExN (b:Nat) (W:World) (k:Nat):Prop:=k=b∨∃ v,W.cell? ⟨b,0,none⟩=some v∧v.ownBlock=some k
theorem putObj_heap (W:World) (l:Nat) (o':Obj) {k:Nat} (h:k≠l):(W.putObj l o').heap[k]? = W.heap[k]?:=by
 rcases Nat.lt_or_ge k W.heap.size with hk|hk
 ·exact (grownBy_putObj' W l o').block k hk (fun e=>h (by cases e;rfl))
 ·have h1:(W.putObj l o').heap.size=W.heap.size:=by simp [World.putObj]
  rw [Array.getElem?_eq_none (by omega),Array.getElem?_eq_none (by omega)]
theorem kpE_putObj {n₀:Nat} {Ex:World→Nat→Prop} {W:World} {l:Nat} {o o':Obj} (hl:n₀≤l) (h:W.heap[l]? = some o) (hc:o.isCells=false) (hE:∀ k,Ex (W.putObj l o') k→Ex W k):KpE n₀ Ex W (W.putObj l o'):=by
 refine ⟨by simp [World.putObj],fun k ob hk hor hn=>?_,fun k hk=>.inl (hE k hk)⟩
 have hne:k≠l:=fun e=>by
  subst e
  rw [h] at hk;cases hk
  rcases hor with h1|h1
  ·omega
  ·rw [hc] at h1;cases h1
 rw [putObj_heap W l o' hne];exact hk
set_option maxRecDepth 100000 in
set_option maxHeartbeats 2000000 in
theorem names_any (w:World) (p:Nat) (st:St) (F:Nat→Prop) (h:Fsy w p st F) (hfl:st.files.length≤100000) (hnl:∀ f∈st.files,f.name.length≤100000) :
  Calls Tryz.prog 79 #[.pointer (some ⟨p,0,none⟩)] w fun e w'=>∃ v,e=.returned v∧Par.Own w' w.heap.size 9 v (strs (st.files.map File.name))∧Below w.heap.size w w':=by
 obtain ⟨xs,mb,hfs,hat,rfl⟩:=h
 have hxl:xs.length≤100000:=by rw [hfs] at hfl;simpa using hfl
 have hxn:∀ x∈xs,x.f.name.length≤100000:=fun x hx=>hnl x.f (by rw [hfs];exact List.mem_map_of_mem hx)
 have hlt:=hat.lt
 have hb0:Below w.heap.size w ((w.alloc (.cells #[.slice none 0 0] 73)).alloc (.cells #[.pointer (some ⟨p,0,none⟩)] 25)):=((Below.refl _ w).alloc (Nat.le_refl _) _).alloc (by simp) _
 have hat2:=hat.below hb0
 have bO:=Boxed.new w 73 (.slice none 0 0)
 have bN:=Boxed.new (w.alloc (.cells #[.slice none 0 0] 73)) 25 (.pointer (some ⟨p,0,none⟩))
 rw [World.size_alloc] at bN
 have bO2:=bO.alloc (.cells #[.pointer (some ⟨p,0,none⟩)] 25)
 have hseq:=each_stops _ p st.power xs mb hat2 hxl hxn (w.heap.size+1) (w.heap.size+2) (by omega) (by simp) bN (fun k hk=>by have:=hlt k hk;omega) (ExN w.heap.size) (fun W hW k hk=>by
  rcases hk with rfl|⟨v,hv,hk⟩
  ·exact ⟨by simp;omega,by omega,fun ho=>by have:=hlt _ ho;omega⟩
  ·rw [hW.cell (p:=⟨w.heap.size,0,none⟩) (by simp;omega),bO2.cell] at hv
   cases hv
   simp [Value.ownBlock] at hk)
 have HFS:=Lib.hid hfs;clear hfs hfl hnl
 have HAT:=Lib.hid hat;clear hat hat2
 have HSEQ:=Lib.hid hseq;clear hseq
 have HB0:=Lib.hid hb0;clear hb0
 have HLT:=Lib.hid hlt;clear hlt
 clear hxn
 refine (callsIn_wide (n:=7)).1 ?_
 refine callsIn_of_wp_marks Tryz.func79 rfl trivial ?_ rfl
 simp only [Tryz.ntmps79,List.size_toArray,List.length_cons,List.length_nil,Nat.reduceAdd,Nat.reduceSub,Array.replicate_succ,Array.replicate_zero,List.push_toArray,List.append_toArray,List.nil_append,List.cons_append]
 gi_wp2_with (refine ⟨trivial,?_⟩;gi_at_call 66;refine (callsIn_wide.2 (each_any p _)).mono ?_;rintro e w1 ⟨rfl,rfl⟩)
 refine wpIn_rangeFunc_ownF (F:=Fence.wide) rfl (by omega) (gf:=111) (lb:=#[.pointer (some ⟨w.heap.size+1,0,none⟩)]) rfl trivial (enters_of Tryz.func111 (by kernel_rfl) rfl)
  HSEQ.out kpE_t ?hKb (Below.refl _ _) (fun _=>rfl)
  (fun pre W=>(∃ v,Boxed W w.heap.size 73 v∧W.ownsRow w.heap.size 9 1 v (strs (namesOf pre)).length (strs (namesOf pre))∧True)∧Below w.heap.size w W)
  (fun _ _ _=>False)
  (OwnFrom.and (Go.Own.from (holdsRow_own w.heap.size w.heap.size 73 9 1 (fun pre:List (FileOf xs)=>(strs (namesOf pre)).length) (fun pre=>strs (namesOf pre)) (fun _ _=>True)) _) (ownFrom_below (Nat.le_refl _) (by simp;omega)))
  (fun _ _ _ _ _ hs _ _=>hs)
  ⟨⟨_,bO2,World.ownsRow_nil _ _ _ _,trivial⟩,HB0.out⟩
  (fun x=>{ tmps:=#[.pointer (some ⟨p,0,none⟩),undef,.slice none 0 0,.pointer (some ⟨w.heap.size,0,none⟩),.string ⟨x.1.f.name.toArray⟩,.pointer (some ⟨p,0,none⟩),.func (.func 111) #[] #[.pointer (some ⟨w.heap.size+1,0,none⟩)],.string ⟨x.1.f.name.toArray⟩,.pointer (some ⟨x.1.q,0,none⟩),undef,undef,undef,undef,undef],defers:=[] }) ?assign ?body ?done ?stop
 case hKb =>
  intro W l o o' hl hget hcl hwl
  simp only [World.size_alloc] at hl
  refine kpE_putObj (by omega) hget hcl (fun k hk=>?_)
  rcases hk with rfl|⟨v,hv,hk⟩
  ·exact .inl rfl
  ·refine .inr ⟨v,?_,hk⟩
   rw [World.cell?_of_block (w:=W) (putObj_heap W l o' (by show w.heap.size≠l;omega))] at hv
   exact hv
 case assign =>
  intro l x W K hK
  dsimp only [encF]
  gi_wp2
  exact hK
 case body =>
  rintro l pre x W ⟨⟨v,hv,hrow,_⟩,hB⟩ hlen
  have hc:=hv.cell
  have hz:=hB.size
  have hsg:=Seg.new W 9 #[.string ⟨x.1.f.name.toArray⟩] (strs [x.1.f.name]) rfl (by simp [strs,maxLen])
  have hown:Par.Own (W.alloc (.cells #[.string ⟨x.1.f.name.toArray⟩] 9)) w.heap.size 9 v (strs (namesOf pre)):=hrow.alloc _
  have hnr:=hv.not_row (by decide) hrow
  have hns:=namesOf_snoc pre x
  have hbd:(strs (namesOf pre)).length+(strs [x.1.f.name]).length≤2147483648:=by rw [strs_length,strs_length,namesOf_length];simp;omega
  generalize namesOf pre=ns at *
  have HNS:=Lib.hid hns;clear hns
  have hbs:w.heap.size≤(W.alloc (.cells #[.string ⟨x.1.f.name.toArray⟩] 9)).heap.size:=by simp;omega
  have HBD:=Lib.hid hbd;clear hbd
  have HBS:=Lib.hid hbs;clear hbs
  gi_wp2_with (gi_at_builtin;refine wpListIn_app _ rfl _ _ 73 rfl w.heap.size 9 _ strE _ _ rfl hown _ _ _ rfl hsg (one_strs _) HBD.out HBS.out ?_)
  intro v' w1 hown' hgrow hat1
  have hlen':w1.ownsRow w.heap.size 9 1 v' ((strs ns).length+1) (strs ns ++ strs [x.1.f.name]):=by
   unfold Par.Own at hown'
   rw [List.length_append] at hown'
   exact hown'
  clear hown'
  obtain ⟨g',cap',rfl⟩:=ownsRow_succ hlen'
  obtain ⟨hv1,hv2,hr2,hk2,hb2⟩:=hv.appended (by decide) hrow hB.size (Nat.le_refl _) hlen' hgrow
  have hc1:=hv1.cell
  have hf1:=hv1.frozen
  gi_wp2
  refine ⟨hk2,?_,⟨_,hv2,?_,trivial⟩,hB.trans hb2⟩
  ·refine ⟨hb2.size,fun k o hk _ hn=>?_,fun k hk=>?_⟩
   ·have hkl:=lt_of_block hk
    rw [Below.heap_setCell _ _ _ _ (fun e=>hn (.inl e))]
    rw [hgrow.block k (by simp;omega) (fun e=>hn (.inr ⟨v,hc,e.symm⟩))]
    rw [Below.heap_alloc _ _ _ hkl]
    exact hk
   ·rcases hk with rfl | ⟨u,hu,hk⟩
    ·exact .inl (.inl rfl)
    ·rw [hv2.cell] at hu
     cases hu
     rcases hat1 with h1|h1
     ·rw [h1] at hk;exact .inl (.inr ⟨v,hc,hk⟩)
     ·rw [h1] at hk;cases hk;right;simp
  ·rw [HNS.out,strs_append,List.length_append]
   exact hr2
 case done =>
  rintro D ys W hD rfl ⟨⟨v,hv,hrow,_⟩,hB⟩ hK
  have hc:=hv.cell
  have hz:=hB.size
  gi_wp2
  refine ⟨by simp,.inl ⟨_,_,rfl,run_takeDeferred hK,?_⟩⟩
  refine ⟨_,results_tmp rfl _ _ _,v,rfl,?_,hB.trans (belowK_b (w:=w) (Nat.le_refl _) W D _ _ (by simp at hD;omega) hK rfl rfl)⟩
  have hr:=ownsRow_putObj hrow (.deferred none) hK rfl
  rw [namesOf_all,←HFS.out] at hr
  exact hr
 case stop =>
  rintro D c pre W _ _ h _
  exact h.elim
open Go.RowKit Go.Shelf
section
variable {P:Program} {ops:Array Oper} {md:Region.Mode} {C:World→Prop} {l n:Nat}
def noDefer (ops:List Oper):Bool:=ops.all fun o=>match o.op with | .defer _=>false | _=>true
theorem noDefer_at {ops:List Oper} (h:noDefer ops=true) {i:Nat} {o:Oper} (ho:ops[i]? = some o):∀ c,o.op≠.defer c:=by
 intro c e
 have:=List.all_eq_true.1 h o (List.mem_of_getElem? ho)
 rw [e] at this
 cases this
theorem operIn_of_quiet {o:Oper} (hnd:∀ c,o.op≠.defer c) {a:Act} {K:Act→Prop} {K':Act→World→Prop} {Q':Exit→Act→World→Prop} {w:World} (hw:C w) (h:∀ a w',C w'→K a→K' a w') (hh:o.quiet P a C K) :
  o.wpIn (Fence.wide.inRound l) n P a w K' Q':=by
 obtain ⟨v,h1,h2⟩:=hh
 have h3:=h1 w hw
 unfold Oper.quietAt at h3
 unfold Oper.wpIn
 refine ⟨fun _ _=>trivial,?_⟩
 rw [show (Fence.wide.inRound l).round=some l from rfl,Oper.semAt_some l a.eval o hnd]
 generalize (execOp a.eval o).run P w=r at *
 cases r with
 | ok m w' =>
  cases m <;> simp only [Oper.quietUpon] at h3 <;> simp only [Oper.uponIn]
  case value u =>
   obtain ⟨e1,e2⟩:=h3
   rw [e1,e2]
   exact h _ _ hw h2
  case skip =>
   obtain ⟨e1,e2⟩:=h3
   rw [e1,←e2]
   exact h _ _ hw h2
  case enter f args =>
   obtain ⟨e1,hc⟩:=h3
   rw [e1]
   refine ⟨(fun h=>by cases h),CallsIn.inRound l (callsIn_wide.2 (hc.mono fun e w'' ⟨he,hw''⟩=>?_))⟩
   subst he
   exact h _ _ hw'' h2
 | halt x w'=>simp only [Oper.quietUpon] at h3
theorem wpOpIn_of_qOp (hnd:noDefer ops.toList=true) {i:Nat} {a:Act} {K:Act→Prop} {K':Act→World→Prop} {Q':Exit→Act→World→Prop} {w:World} (hC:C w) (h:∀ a w',C w'→K a→K' a w') (hh:qOp P ops C i K a) :
  wpOpIn (Fence.wide.inRound l) n P ops Q' i K' a w:=by
 unfold qOp at hh
 unfold wpOpIn
 split
 ·rename_i ho;simp only [ho] at hh;exact h _ _ hC hh
 ·rename_i o ho
  simp only [ho] at hh
  split
  ·rename_i hw;simp only [hw,if_true] at hh;exact operIn_of_quiet (noDefer_at hnd (by simpa using ho)) hC h hh
  ·rename_i hw;simp only [hw] at hh;exact ⟨fun _ _=>trivial,h _ _ hC hh⟩
theorem wpAnyIn_of_quiet (hnd:noDefer ops.toList=true) {Q:Act→Prop} {Q':Exit→Act→World→Prop} (hQ:∀ a w,C w→Q a→Q' .normal a w):∀ (fuel:Nat) (listed:Array Bool) (a:Act) (w:World),C w →
  wpAnyQ P md ops C Q fuel listed a→wpAnyIn (Fence.wide.inRound l) n P md ops Q' fuel listed a w
 | 0,_,_,_,hw,h=>⟨h.1,hQ _ _ hw h.2⟩
 | fuel+1,_,_,_,hw,h=>⟨fun h0=>hQ _ _ hw (h.1 h0),fun i hi=>wpOpIn_of_qOp hnd hw (fun a' w' hw'=>wpAnyIn_of_quiet hnd hQ fuel _ a' w' hw') (h.2 i hi)⟩
theorem wpIn_round_quiet {id:Nat} {Q:Exit→Act→World→Prop} {a:Act} {w:World} {lo:List Oper} (hm:P.follows .mixedOrders=true) (hB:Region.lexB .any lo.toArray=true) (hnd:noDefer lo=true)
  (h:wpQuiet P lo.toArray (fun w'=>∃ n,w'=w.drewN n) (fun a'=>∀ w',(∃ n,w'=w.drewN n)→Q .normal a' w') lo a):(Code.region id lo.toArray true).wpIn (Fence.wide.inRound l) n P Q a w:=by
 simp only [Region.lexB,Bool.and_eq_true] at hB
 refine wpIn_region_any hm (wpAnyIn_of_quiet (C:=fun w'=>∃ n,w'=w.drewN n) (by simpa using hnd) (Q:=fun a'=>∀ w',(∃ n,w'=w.drewN n)→Q .normal a' w') (fun _ w' hw' h=>h w' hw') _ _ _ _ ⟨1,rfl⟩ ?_)
 have:=wpAnyQ_lex (C:=fun w'=>∃ n,w'=w.drewN n) (md:=.any) hB.1 lo.toArray.toList 0 (Array.replicate lo.toArray.size false) a (by simp) (by simpa using hB.2) (by simpa using h)
 simpa using this
end
def what (o:Oper):Option Tmp × Op × List Nat × Bool:=(o.dst,o.op,(o.after.toList.filter (Region.binds .any)).map (·.on),o.guard.isNone)
def V11 (pL mL q N len c2:Nat) (A2:Option Addr) (S:ByteArray):Nat→Option Value
 | 0 | 1 | 2=>some (.pointer (some ⟨pL,0,none⟩))
 | 3=>some (.map (some mL))
 | 4=>some (.string S)
 | 5 | 6 | 7=>some (.pointer (some ⟨q,0,none⟩))
 | 8=>some (.slice A2 len c2)
 | 9 | 12=>some (.int .i64 N)
 | 10=>some (.slice A2 N c2)
 | _=>none
section
variable {pL mL q N len c2 b7:Nat} {A2:Option Addr} {S:ByteArray} {W:World} {Post:Value→World→Prop} {Fin:World→Prop} {L:Array Bool} {a:Act} {w:World}
end
section
variable {pL mL q N len c2 b7:Nat} {A2:Option Addr} {S:ByteArray} {W:World} {Post:Value→World→Prop} {Fin:World→Prop} {Q:Exit→Act→World→Prop} {l n:Nat}
end
attribute [local go_sem] Oper.semAt_some
end Go.Proofs.YtaalbcfpacpgfaaGreat
