/- Texts I20a R1 of the proof, joined. -/
import Derived.Test.YtaalbcfpacpgfaaGreatZaIB
import Derived.Test.YtaalbcfpacpgfaaGreatZaI8
import Derived.Test.YtaalbcfpacpgfaaGreatZaM5
set_option linter.unusedVariables false
set_option linter.unusedSimpArgs false
namespace Go.Ix
open Go.RowKit Go.Lib Go.Vfs Go.Par Go.Typ
def modStep (E:En) (s:List En × Bool) (y:En):List En × Bool :=
 if y.uri=E.uri then s else if s.2=false∧Op.bytesLess E.uri.toList y.uri.toList=true then ((s.1 ++ [E]) ++ [y],true) else (s.1 ++ [y],s.2)
def modS (E:En) (ys:List En):List En × Bool:=ys.foldl (modStep E) ([],false)
def modE (E:En) (ys:List En):List En:=if (modS E ys).2 then (modS E ys).1 else (modS E ys).1 ++ [E]
theorem less_before20:∀ a b:List UInt8,Op.bytesLess a b=bytesBefore a b
 | [],[]=>rfl
 | _ :: _,[]=>rfl
 | [],_ :: _=>rfl
 | a :: x,b :: y=>by simp only [Op.bytesLess,bytesBefore,less_before20 x y]
theorem uri_key (x y:En):x.uri=y.uri↔keyE x=keyE y:=by
 unfold keyE
 constructor
 ·intro h;rw [h]
 ·intro h
  obtain ⟨u,_,_⟩:=x;obtain ⟨u',_,_⟩:=y
  cases u;cases u'
  simp only at h ⊢
  rw [Array.toList_inj.1 h]
theorem modS_true (E:En):∀ (ys acc:List En),ys.foldl (modStep E) (acc,true)=(acc ++ dropL keyE (keyE E) ys,true)
 | [],acc=>by simp [dropL]
 | y :: ys,acc=>by
  rw [List.foldl_cons]
  unfold modStep
  by_cases h:y.uri=E.uri
  ·have hk:=(uri_key y E).1 h
   rw [if_pos h]
   have:=modS_true E ys acc
   unfold modStep at this
   rw [this]
   simp [dropL,hk]
  ·have hk:¬ keyE y=keyE E:=fun e=>h ((uri_key y E).2 e)
   rw [if_neg h,if_neg (by simp)]
   have:=modS_true E ys (acc ++ [y])
   unfold modStep at this
   simp only
   rw [this]
   simp [dropL,hk]
theorem modS_false (E:En):∀ (ys acc:List En),(if (ys.foldl (modStep E) (acc,false)).2 then (ys.foldl (modStep E) (acc,false)).1 else (ys.foldl (modStep E) (acc,false)).1 ++ [E])=acc ++ withL keyE E ys
 | [],acc=>by simp [withL,dropL,putL]
 | y :: ys,acc=>by
  rw [List.foldl_cons]
  by_cases h:y.uri=E.uri
  ·have hk:=(uri_key y E).1 h
   rw [show modStep E (acc,false) y=(acc,false) by unfold modStep;rw [if_pos h],modS_false E ys acc]
   simp [withL,dropL,hk]
  ·have hk:¬ keyE y=keyE E:=fun e=>h ((uri_key y E).2 e)
   have hw:withL keyE E (y :: ys)=if bytesBefore (keyE E) (keyE y) then E :: y :: dropL keyE (keyE E) ys else y :: withL keyE E ys:=by
    unfold withL
    rw [show dropL keyE (keyE E) (y :: ys)=y :: dropL keyE (keyE E) ys by simp [dropL,hk]]
    rfl
   have hbb:Op.bytesLess E.uri.toList y.uri.toList=bytesBefore (keyE E) (keyE y):=by
    rw [less_before20];unfold keyE;rw [ByteArray.toList_eq,ByteArray.toList_eq]
   by_cases hl:bytesBefore (keyE E) (keyE y)=true
   ·rw [show modStep E (acc,false) y=((acc ++ [E]) ++ [y],true) by unfold modStep;rw [if_neg h,if_pos ⟨rfl,hbb.trans hl⟩],modS_true,hw,if_pos hl]
    simp
   ·rw [show modStep E (acc,false) y=(acc ++ [y],false) by unfold modStep;rw [if_neg h,if_neg (by rintro ⟨-,hh⟩;exact hl (hbb.symm.trans hh))],modS_false E ys (acc ++ [y]),hw,if_neg hl]
    simp
theorem modE_with (E:En) (ys:List En):modE E ys=withL keyE E ys:=by
 have:=modS_false E ys []
 rw [List.nil_append] at this
 exact this
theorem modS_step (E:En) {ys:List En} {j:Nat} (h:j < ys.length):modS E (ys.take (j+1))=modStep E (modS E (ys.take j)) ys[j]:=by
 rw [List.take_succ_eq_append_getElem h]
 unfold modS
 rw [List.foldl_append]
 rfl
theorem modS_len (E:En) (ys:List En):(modS E ys).1.length≤2 * ys.length:=by
 have key:∀ (ys:List En) (s:List En × Bool),(ys.foldl (modStep E) s).1.length≤s.1.length+2 * ys.length:=by
  intro ys
  induction ys with
  | nil=>intro s;simp
  | cons y ys ih =>
   intro s
   rw [List.foldl_cons]
   have h1:=ih (modStep E s y)
   have h2:(modStep E s y).1.length≤s.1.length+2:=by
    unfold modStep
    split
    ·omega
    ·split <;> simp
   rw [List.length_cons];omega
 have:=key ys ([],false)
 simpa [modS] using this
theorem dropN_step {s:List UInt8} {xs:List En} {j:Nat} (h:j < xs.length):dropL keyE s (xs.take (j+1))=if keyE xs[j]=s then dropL keyE s (xs.take j) else dropL keyE s (xs.take j) ++ [xs[j]]:=by
 rw [List.take_succ_eq_append_getElem h]
 unfold dropL
 rw [List.filter_append]
 by_cases hk:keyE xs[j]=s
 ·rw [if_pos hk];simp [hk]
 ·rw [if_neg hk];simp [hk]
theorem key_uri {x:En} {s:ByteArray}:keyE x=s.data.toList↔x.uri=s:=by
 constructor
 ·intro h
  have h:x.uri.data.toList=s.data.toList:=h
  obtain ⟨u,_,_⟩:=x
  cases u;cases s
  simp only at h ⊢
  rw [Array.toList_inj.1 h]
 ·intro h;unfold keyE;rw [h]
theorem modStep_apart {E y:En} {s:List En × Bool} (h:¬ y.uri=E.uri):modStep E s y=if s.2=false∧Op.bytesLess E.uri.toList y.uri.toList=true then ((s.1 ++ [E]) ++ [y],true) else (s.1 ++ [y],s.2):=by
 unfold modStep;rw [if_neg h]
theorem dropN_apart {E:En} {xs:List En}:∀ y∈dropL keyE (keyE E) xs,¬ y.uri=E.uri:=fun y hy e=>(mem_dropL.1 hy).2 (by unfold keyE;rw [e])
def EntG (G:Nat→Prop) (S:Nat→Prop) (w:World) (v:Value) (x:En):Prop:=EntAt (fun g=>S g∧G g) w v x
theorem EntG.keep {G S S':Nat→Prop} {w w':World} {v:Value} {x:En} (h:EntG G S w v x) (hk:∀ b,S b→S' b∧w'.heap[b]? = w.heap[b]?):EntG G S' w' v x :=
 EntAt.keep h fun b hb=>⟨⟨(hk b hb.1).1,hb.2⟩,(hk b hb.1).2⟩
theorem _root_.Go.Typ.RowK.entsG {G:Nat→Prop} {e B:Nat} {w:World} {xs:List En} {v:Value} {us:List Value} (h:RowK e 3 (EntG G) 0 B w xs v us):EntsAt (fun g=>(G g∨B≤g)∧g < w.heap.size) w v xs:=by
 obtain ⟨A,c,rfl,hc,hm⟩:=h.form
 refine ⟨A,c,rfl,hc,hm,fun i=>us.getD i (.bool false),fun h0=>?_,fun i hi=>EntAt.keep (h.each i hi) fun g hg=>⟨⟨.inl hg.2,hg.1.2.1⟩,rfl⟩⟩
 obtain ⟨g,c',e,hb,hlt,hat⟩:=h.cells h0
 injection e with e1 _ _
 refine ⟨g,0,e1,⟨.inr hb,hlt⟩,fun i hi j hj=>?_⟩
 rw [hat i hi j hj]
 show _=some (fld (us.getD i (.bool false)) j)
 obtain ⟨A',c',e,_⟩:=h.each i hi
 rw [e]
 have:j=0∨j=1∨j=2:=by omega
 rcases this with rfl|rfl|rfl <;> rfl
end Go.Ix
namespace Go.Proofs.YtaalbcfpacpgfaaGreat
open Go.RowKit Go.Lib Go.Vfs Go.Par Go.Typ Go.Shelf Go.Ix
theorem rowG_app {G T:Nat→Prop} {B:Nat} {w w3:World} {xs:List En} {v v':Value} {us:List Value} (h:RowK 55 3 (EntG G) 0 B w xs v us) {x:En} {A:Option Addr} {c:Nat} (hx:EntAt T w (enV x A c) x) (hT:∀ g,T g→G g∧g < B) (hzw:B≤w.heap.size) {o:Obj}
  (hown:w3.ownsRow B 55 3 v' (xs.length+1) (us.flatMap flatC ++ flatC (enV x A c))) (hg:(w.alloc o).grownBy w3 v.ownBlock) (hat:v'.ownBlock=v.ownBlock∨v'.ownBlock=some (w.alloc o).heap.size) :
  RowK 55 3 (EntG G) 0 B w3 (xs ++ [x]) v' (us ++ [enV x A c]) :=
 RowK.next (R:=EntG G) EntG.keep h (S:=T) (EntAt.keep hx fun g hg=>⟨⟨hg,(hT g hg).1⟩,rfl⟩) (fun g hg=>⟨Nat.zero_le _,by have:=(hT g hg).2;omega,fun e=>by have:=h.lt g e;have:=(hT g hg).2;omega⟩) rfl o hown hg hat
theorem ruri_any (s:ByteArray) (hs:s.size≤9223372036854775807) (w:World):Calls Tryz.prog 77 #[.string s] w fun e w'=>e=.returned (.bool (uriOk s))∧w'=w:=by
 by_cases h1:(1:Int)≤(s.size:Int)
 ·by_cases h2:(s.size:Int)≤64
  ·have hu:uriOk s=true:=by unfold uriOk;exact decide_eq_true ⟨by omega,by omega⟩
   rw [hu]
   go_enter Tryz.func77,Tryz.ntmps77
   go_wp2
   go_ret
   exact ⟨rfl,rfl⟩
  ·have hu:uriOk s=false:=by unfold uriOk;exact decide_eq_false (by omega)
   rw [hu]
   go_enter Tryz.func77,Tryz.ntmps77
   go_wp2
   go_ret
   exact ⟨rfl,rfl⟩
 ·have hu:uriOk s=false:=by unfold uriOk;exact decide_eq_false (by omega)
  rw [hu]
  go_enter Tryz.func77,Tryz.ntmps77
  go_wp2
  go_ret
  exact ⟨rfl,rfl⟩
set_option maxRecDepth 20000 in
set_option maxHeartbeats 4000000 in
theorem r20without_any (xs:List En) (s:ByteArray) (v:Value) (w:World) (S:Nat→Prop) (hS:∀ g,S g→g < w.heap.size) (hX:EntsAt S w v xs) (hl:xs.length≤1000000) :
  Calls Tryz.prog 71 #[v,.string s] w fun e w'=>∃ A c,e=.returned (.slice A (dropL keyE s.data.toList xs).length c)∧EntsAt (New S w w') w' (.slice A (dropL keyE s.data.toList xs).length c) (dropL keyE s.data.toList xs)∧Below w.heap.size w w':=by
 obtain ⟨A,c,rfl,hc,hm⟩:=hX.form
 have HX:=Lib.hid hX
 have HS:=Lib.hid hS
 obtain ⟨W1,hW1⟩:∃ W1,W1=w.alloc (.cells #[] 55):=⟨_,rfl⟩
 have hb1:Below w.heap.size w W1:=by rw [hW1];exact (Below.refl _ _).alloc (Nat.le_refl _) _
 have HB1:=Lib.hid hb1
 have HMK:Hid (RowK 55 3 (EntG S) 0 w.heap.size W1 [] (.slice (some ⟨w.heap.size,0,none⟩) 0 0) []):=Lib.hid (by rw [hW1];exact RowK.made w (Nat.le_refl _))
 clear hX hS hc hm hb1
 go_enter Tryz.func71,Tryz.ntmps71
 go_wp2
 rw [←hW1]
 clear hW1
 go_loopw [5,6] (fun sv jv W'=>∃ (j:Nat) (us:List Value),j≤xs.length∧jv=.int .i64 j∧Hid (RowK 55 3 (EntG S) 0 w.heap.size W' (dropL keyE s.data.toList (xs.take j)) sv us)∧Hid (Below w.heap.size w W')) (fun _ jv _=>xs.length - (RowKit.intOf jv).toNat)
 case atStart=>exact ⟨0,[],by omega,rfl,HMK,HB1⟩
 case round =>
  obtain ⟨j,us,hj,rfl,HR,HB⟩:=hrel
  have hz:=HB.out.size
  by_cases hlt:j < xs.length
  ·obtain ⟨b,off,A',c',rfl,hb,hns,ht,x0,x1,x2⟩:=(HX.out.keep (S':=S) fun g hg=>⟨hg,HB.out.block g (HS.out g hg)⟩).arg hlt
   have hbl:=HS.out b hb
   have hst:=dropN_step (s:=s.data.toList) hlt
   have HEN:Hid (EntAt S wr (enV xs[j] A' c') xs[j]):=Lib.hid ⟨A',c',rfl,hns,ht⟩
   have hal:(dropL keyE s.data.toList (xs.take j)).length≤j:=by have:=List.length_filter_le (fun y=>!(keyE y == s.data.toList)) (xs.take j);rw [List.length_take] at this;unfold dropL;omega
   have hku:keyE xs[j]=s.data.toList↔xs[j].uri=s:=key_uri
   clear ht hns
   generalize xs[j]=Y at *
   generalize dropL keyE s.data.toList (xs.take j)=acc at *
   by_cases hn:Y.uri=s
   ·rw [if_pos (hku.2 hn)] at hst
    have HSK:=Lib.hid hst
    have hnn:(Y.uri.toList == s.toList)=true:=(beqS _ _).2 hn
    clear hn hst hku
    go_wp2
    go_roundw
    case rel=>exact ⟨j+1,us,by omega,by go_num,Lib.hid (by rw [HSK.out];exact HR.out),HB⟩
    case measure=>simp [RowKit.intOf];omega
   ·rw [if_neg (fun h=>hn (hku.1 h))] at hst
    have HSK:=Lib.hid hst
    have hnn:(Y.uri.toList == s.toList)=false:=beqS_ne hn
    have hown:=HR.out.own
    obtain ⟨us',hus⟩:∃ us',us'=us.flatMap flatC:=⟨_,rfl⟩
    obtain ⟨m,hm⟩:∃ m,m=acc.length:=⟨_,rfl⟩
    rw [←hus,←hm] at hown
    rw [←hm] at hal
    have HUS:=Lib.hid hus
    have HM:=Lib.hid hm
    clear hn hst hku hus hm
    go_wp2_with (at_builtin;refine wpList_appK _ rfl _ _ _ rfl w.heap.size _ 3 enE _ m us' rfl (World.ownsRow.alloc hown _) ⟨wr.heap.size,0,none⟩ 1 1 [.string Y.uri,.int .i64 Y.ver,.slice A' Y.exs.length c'] rfl rfl (cells_new _ _ _) (one3 _ _ _ _ _) (by omega) (by simp;omega) ?_;intro v5 w5 hown5 hg5 hat5)
    have hR5:RowK 55 3 (EntG S) 0 w.heap.size w5 (acc ++ [Y]) v5 (us ++ [enV Y A' c']):=by
     refine rowG_app HR.out HEN.out (fun g hg=>⟨hg,HS.out g hg⟩) hz ?_ hg5 hat5
     rw [←HM.out,←HUS.out];exact hown5
    have HR5:=Lib.hid hR5
    have HB5:Hid (Below w.heap.size w w5):=Lib.hid (below_grow HB.out hz _ hg5 (fun g e=>(hown.lt g e).1))
    clear hR5 hown5 hg5 hat5 hown x0 x1 x2
    go_wp2
    go_roundw
    case rel=>exact ⟨j+1,_,by omega,by go_num,Lib.hid (by rw [HSK.out];exact HR5.out),HB5⟩
    case measure=>simp [RowKit.intOf];omega
  ·have hkl:j=xs.length:=by omega
   have hr:=HR.out
   rw [hkl,List.take_length] at hr
   have HE:=Lib.hid hr.entsG
   obtain ⟨Af,cf,hff,-,-⟩:=hr.form
   clear hr
   subst hff
   go_wp2
   go_ret
   exact ⟨Af,cf,rfl,HE.out.keep fun g hg=>⟨hg.1.imp id (fun h=>⟨h,hg.2⟩),rfl⟩,HB.out⟩
end Go.Proofs.YtaalbcfpacpgfaaGreat
