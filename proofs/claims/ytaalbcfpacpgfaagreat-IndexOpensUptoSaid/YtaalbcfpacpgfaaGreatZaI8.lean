/- Index: Entries. -/
import Derived.OrdersHeld
import Derived.Test.YtaalbcfpacpgfaaGreatZaI7
import Derived.Test.YtaalbcfpacpgfaaGreatZaIB
set_option linter.unusedVariables false
set_option linter.unusedSimpArgs false
namespace Go.Ix
open Go.RowKit Go.Lib Go.Vfs Go.Par Go.Typ
def IsC (W:World) (b:Nat):Prop:=∃ cs t fz,W.heap[b]? = some (.cells cs t fz)
def EntC (S:Nat→Prop) (W:World) (v:Value) (x:En):Prop:=EntAt (fun b=>S b∧CleanB W b) W v x
theorem EntC.keep {S S':Nat→Prop} {w w':World} {v:Value} {x:En} (h:EntC S w v x) (hk:∀ b,S b→S' b∧w'.heap[b]? = w.heap[b]?):EntC S' w' v x :=
 EntAt.keep h fun b hb=>⟨⟨(hk b hb.1).1,hb.2.keep (hk b hb.1).2⟩,(hk b hb.1).2⟩
def EntsC (S:Nat→Prop) (W:World) (v:Value) (xs:List En):Prop:=EntsAt (fun b=>S b∧CleanB W b) W v xs
theorem EntsC.keep {S S':Nat→Prop} {w w':World} {v:Value} {x:List En} (h:EntsC S w v x) (hk:∀ b,S b→S' b∧w'.heap[b]? = w.heap[b]?):EntsC S' w' v x :=
 EntsAt.keep h fun b hb=>⟨⟨(hk b hb.1).1,hb.2.keep (hk b hb.1).2⟩,(hk b hb.1).2⟩
theorem EntsC.at_ {S:Nat→Prop} {w:World} {v:Value} {x:List En} (h:EntsC S w v x):EntsAt S w v x:=EntsAt.keep h fun _ hg=>⟨hg.1,rfl⟩
theorem _root_.Go.Typ.RowK.entsC {e L B:Nat} {w:World} {xs:List En} {v:Value} {us:List Value} (h:RowK e 3 EntC L B w xs v us):EntsC (fun g=>(L≤g∨B≤g)∧g < w.heap.size) w v xs:=by
 have hcl:∀ g,v.ownBlock=some g→CleanB w g:=fun g e=>h.clean e
 obtain ⟨A,c,rfl,hc,hm⟩:=h.form
 refine ⟨A,c,rfl,hc,hm,fun i=>us.getD i (.bool false),fun h0=>?_,fun i hi=>EntC.keep (h.each i hi) fun g hg=>⟨⟨.inl hg.1,hg.2.1⟩,rfl⟩⟩
 obtain ⟨g,c',e,hb,hlt,hat⟩:=h.cells h0
 injection e with e1 _ _
 refine ⟨g,0,e1,⟨⟨.inr hb,hlt⟩,hcl g (by rw [e1];rfl)⟩,fun i hi j hj=>?_⟩
 rw [hat i hi j hj]
 show _=some (fld (us.getD i (.bool false)) j)
 obtain ⟨A',c',e,_⟩:=h.each i hi
 rw [e]
 have:j=0∨j=1∨j=2:=by omega
 rcases this with rfl|rfl|rfl <;> rfl
theorem row_walk {t L B:Nat} {w w':World} {xs:List En} {v:Value} {us:List Value} (h:RowK t 3 EntC L B w xs v us) {row:Option Nat} (hg:w.grownBy w' row) (hr:∀ r,row=some r→∃ o:Obj,w.heap[r]? = some o∧o.isCells=false):RowK t 3 EntC L B w' xs v us:=by
 have key:∀ b,b < w.heap.size→IsC w b→w'.heap[b]? = w.heap[b]?:=fun b hb ⟨cs,t,fz,hc⟩=>hg.block b hb fun e=>by
  obtain ⟨o,ho,hn⟩:=hr b e.symm
  rw [hc] at ho;cases ho;cases hn
 refine ⟨h.len,ownsRow_block h.own fun g e=>?_,h.size,fun i hi=>?_⟩
 ·rcases h.own.2 with ⟨hv,_⟩ | ⟨g',cap,cur,hv,_,hh,_⟩
  ·rw [hv] at e;cases e
  ·rw [hv] at e;cases e;exact key _ (lt_blk hh) ⟨_,_,_,hh⟩
 ·have h1:EntAt _ w _ _:=h.each i hi
  refine EntAt.keep h1 fun b hb=>?_
  obtain ⟨cs,ct,hcl⟩:=hb.2
  have hk:=key b hb.1.2.1 ⟨cs,ct,_,hcl⟩
  exact ⟨⟨⟨hb.1.1,Nat.lt_of_lt_of_le hb.1.2.1 hg.size,hb.1.2.2⟩,hb.2.keep hk⟩,hk⟩
end Go.Ix
namespace Go.Proofs.YtaalbcfpacpgfaaGreat
open Go.RowKit Go.Lib Go.Vfs Go.Par Go.Typ Go.Shelf Go.Ix
attribute [local go_sem] Oper.semAt_some
theorem enE:ElemK Tryz.prog 45 55 3:=elemK_of (b:=48) (z:=.agg #[.string ⟨#[]⟩,.int .i64 0,.slice none 0 0]) Tryz.underlying45 (by kernel_rfl) (by decide) rfl (by decide)
theorem one3 (s:ByteArray) (k:Int) (A:Option Addr) (n c:Nat):∀ u∈[Value.string s,.int .i64 k,.slice A n c],u.oneCell'=true:=by
 intro u hu
 simp at hu
 rcases hu with rfl|rfl|rfl <;> rfl
structure EI (w:World) (pre:List En) (W:World):Prop where
 row:∃ v us,Boxed W w.heap.size 45 v∧RowK 55 3 EntC (w.heap.size+2) (w.heap.size+2) W pre v us
 below:Below w.heap.size w W
 size:w.heap.size+2≤W.heap.size
theorem EI.walk {w W W':World} {pre:List En} (h:EI w pre W) {row:Option Nat} (hg:W.grownBy W' row) (hr:∀ r,row=some r→w.heap.size+2≤r∧∃ o:Obj,W.heap[r]? = some o∧o.isCells=false):EI w pre W':=by
 obtain ⟨v,us,h1,h2⟩:=h.row
 have hz:=h.size
 have hb:=h.below
 refine ⟨⟨v,us,h1.kept hg (fun e=>by have:=(hr _ e.symm).1;omega),row_walk h2 hg (fun r e=>(hr r e).2)⟩,⟨hg.os.trans hb.os,hg.tape.trans hb.tape,hg.output.trans hb.output,Nat.le_trans hb.size hg.size,fun k hk=>(hg.block k (by omega) (fun e=>by have:=(hr k e.symm).1;omega)).trans (hb.block k hk)⟩,by have:=hg.size;omega⟩
theorem EI.go {w W W':World} {pre:List En} (h:EI w pre W) (hb:Below W.heap.size W W'):EI w pre W':=by
 obtain ⟨v,us,h1,h2⟩:=h.row
 have hz:=h.size
 refine ⟨⟨v,us,(hb.block _ (by omega)).trans h1,RowK.below (R:=EntC) EntC.keep h2 hb⟩,h.below.trans (hb.mono (by omega)),by have:=hb.size;omega⟩
def ExE (b:Nat) (W:World) (k:Nat):Prop:=k=b∨∃ v,W.cell? ⟨b,0,none⟩=some v∧v.ownBlock=some k
theorem EI.next {w W w2 w3:World} {pre:List En} {v v3:Value} {us:List Value} {E:En} {A2:Option Addr} {c2:Nat} {o:Obj} {n₀:Nat} (hn₀:n₀=w.heap.size+2) (h:EI w pre W) (hv:Boxed W w.heap.size 45 v) (hr:RowK 55 3 EntC (w.heap.size+2) (w.heap.size+2) W pre v us) (hb:Below W.heap.size W w2)
  (hx:ExsC (fun g=>W.heap.size≤g∧g < w2.heap.size) w2 (.slice A2 E.exs.length c2) E.exs) (hu:E.uri.size≤9223372036854775807) (hown:w3.ownsRow (w.heap.size+2) 55 3 v3 (pre.length+1) (us.flatMap flatC ++ [.string E.uri,.int .i64 E.ver,.slice A2 E.exs.length c2]))
  (hg:(w2.alloc o).grownBy w3 v.ownBlock) (hat:v3.ownBlock=v.ownBlock∨v3.ownBlock=some (w2.alloc o).heap.size) :
  KeepsFrom (w.heap.size+2) W (w3.setCell ⟨w.heap.size,0,none⟩ v3)∧KpE n₀ (ExE w.heap.size) W (w3.setCell ⟨w.heap.size,0,none⟩ v3)∧EI w (pre ++ [E]) (w3.setCell ⟨w.heap.size,0,none⟩ v3):=by
 subst hn₀
 have hz:=h.size
 have hzb:=hb.size
 have hzg:=hg.size
 simp only [World.size_alloc] at hzg
 have hvl:=hr.own.lt
 have same:∀ k,k < W.heap.size→k≠w.heap.size→v.ownBlock≠some k→(w3.setCell ⟨w.heap.size,0,none⟩ v3).heap[k]? = W.heap[k]?:=fun k hk h1 h2=>by
  rw [setCell_block h1,hg.block k (by simp;omega) (fun e=>h2 e.symm),Below.heap_alloc _ _ _ (by omega)]
  exact hb.block k hk
 have hzF:(w3.setCell ⟨w.heap.size,0,none⟩ v3).heap.size=w3.heap.size:=by simp [World.setCell]
 have hbx3:Boxed w3 w.heap.size 45 v:=by
  have h1:Boxed w2 w.heap.size 45 v:=(hb.block _ (by omega)).trans hv
  exact (h1.alloc o).kept hg (fun e=>by have:=(hvl _ e.symm).1;omega)
 have hru:=RowK.below (R:=EntC) EntC.keep hr hb
 have hrow3:RowK 55 3 EntC (w.heap.size+2) (w.heap.size+2) w3 (pre ++ [E]) v3 (us ++ [enV E A2 c2]) :=
  RowK.next (R:=EntC) EntC.keep hru (u:=enV E A2 c2) (x:=E) (S:=fun g=>W.heap.size≤g∧g < w2.heap.size) ⟨A2,c2,rfl,hu,hx⟩ (fun g hg=>⟨by omega,hg.2,fun e=>by have:=(hvl g e).2;omega⟩) rfl o hown hg hat
 refine ⟨⟨by omega,fun k ob hB hk hc=>?_⟩,⟨by omega,fun k ob hk hor hn=>?_,fun k hk=>?_⟩,⟨v3,us ++ [enV E A2 c2],hbx3.set v3,?_⟩,?_,by omega⟩
 ·refine (same k (lt_blk hk) (by omega) (fun e=>?_)).trans hk
  rcases hr.own.2 with ⟨e1,_⟩|⟨g,cap,cur,e1,_,hh,_⟩
  ·rw [e1] at e;cases e
  ·rw [e1] at e;cases e;rw [hh] at hk;cases hk;cases hc
 ·exact (same k (lt_blk hk) (fun e=>hn (.inl e)) (fun e=>hn (.inr ⟨v,hv.cell,e⟩))).trans hk
 ·rcases hk with rfl | ⟨u,hu,hk⟩
  ·exact .inl (.inl rfl)
  ·rw [(hbx3.set v3).cell] at hu
   cases hu
   rcases hat with h1|h1
   ·rw [h1] at hk;exact .inl (.inr ⟨v,hv.cell,hk⟩)
   ·rw [h1] at hk;cases hk;right;simp;omega
 ·exact RowK.above (R:=EntC) EntC.keep hrow3 (Lo:=w.heap.size+2) (Nat.le_refl _) (Nat.le_refl _) (fun g h1 h2=>setCell_block (a:=⟨w.heap.size,0,none⟩) (show g≠w.heap.size by omega)) (by omega)
 ·refine ⟨hg.os.trans (hb.os.trans h.below.os),hg.tape.trans (hb.tape.trans h.below.tape),hg.output.trans (hb.output.trans h.below.output),by have:=h.below.size;omega,fun k hk=>?_⟩
  exact (same k (by omega) (by omega) (fun e=>by have:=(hvl k e).1;omega)).trans (h.below.block k hk)
def AxE (w:World) {xs:List EnR} (T:EntOf xs→Nat→Array Value) (x:EntOf xs) (a':Act) (W:World):Prop :=
 ∃ bx A c,w.heap.size+2≤bx∧x.1.v=.agg #[.string x.1.e.uri,.int .i64 x.1.e.ver,.slice A x.1.e.exs.length c]∧ExsAt (· < w.heap.size) w (.slice A x.1.e.exs.length c) x.1.e.exs∧a'={ tmps:=T x bx,defers:=[] } ∧
  W.heap[bx]? = some (.cells #[.string x.1.e.uri,.int .i64 x.1.e.ver,.slice A x.1.e.exs.length c] 55 (0,0))∧∃ v,Boxed W w.heap.size 45 v∧v.ownBlock≠some bx
set_option maxRecDepth 100000 in
set_option maxHeartbeats 4000000 in
theorem entriesCl_any (w:World) (px pj mb:Nat) (xs:List EnR) (S:Nat→Prop) (h:IxAt w px pj mb xs S) (hS:∀ k,S k→k < w.heap.size) (hok:Ix.Good (xs.map (·.e))) (hxl:xs.length≤100000) :
  Calls Tryz.prog 18 #[.pointer (some ⟨px,0,none⟩)] w fun e w'=>∃ v,e=.returned v∧EntsC (fun g=>w.heap.size≤g∧g < w'.heap.size) w' v (xs.map (·.e))∧Below w.heap.size w w':=by
 have hlt:=h.lt
 obtain ⟨W0,hW0⟩:∃ W0,W0=(w.alloc (.cells #[.slice none 0 0] 45)).alloc (.cells #[.pointer (some ⟨px,0,none⟩)] 40):=⟨_,rfl⟩
 have hs0:W0.heap.size=w.heap.size+2:=by rw [hW0];simp
 have hb0:Below w.heap.size w W0:=by rw [hW0];exact (box_below w _).alloc (by simp) _
 have k0:Boxed W0 w.heap.size 45 (.slice none 0 0):=by
  rw [hW0];exact (Boxed.new w 45 (.slice none 0 0)).alloc _
 have k1:W0.heap[w.heap.size+1]? = some (.cells #[.pointer (some ⟨px,0,none⟩)] 40 (0,0)):=by
  rw [hW0]
  have:=heap_alloc_new (w.alloc (.cells #[.slice none 0 0] 45)) (.cells #[.pointer (some ⟨px,0,none⟩)] 40)
  simpa using this
 have hix0:IxAt W0 px pj mb xs S:=h.keep (hb0.block _ hlt.1) (hb0.block _ hlt.2) (fun b hb=>hb0.block b (hS b hb))
 have hu64:∀ x∈xs,x.e.uri.size≤64:=fun x hx=>(okE_uri (hok.ok x.e (List.mem_map_of_mem hx))).2
 have HSEQ:=Lib.hid (all_stops W0 px pj mb xs S hix0 hxl hu64 (w.heap.size+1) (w.heap.size+2) (by omega) (by omega) k1 (by omega) (ExE w.heap.size) (fun W hW k hk=>by
  rcases hk with rfl|⟨v,hv,hk⟩
  ·exact ⟨by omega,by omega,by omega,by omega⟩
  ·rw [hW.cell (p:=⟨w.heap.size,0,none⟩) (by show w.heap.size < W0.heap.size;omega),k0.cell] at hv
   cases hv
   simp [Value.ownBlock] at hk))
 have HENT:Hid (∀ x∈xs,∃ A c,x.v=.agg #[.string x.e.uri,.int .i64 x.e.ver,.slice A x.e.exs.length c]∧ExsAt (· < w.heap.size) w (.slice A x.e.exs.length c) x.e.exs):=Lib.hid fun x hx=>by
  obtain ⟨A,c,ev,-,he⟩:=h.ents x hx
  exact ⟨A,c,ev,he.keep fun g hg=>⟨hS g hg,rfl⟩⟩
 have HOK:Hid (∀ x∈xs,okE x.e=true):=Lib.hid fun x hx=>hok.ok x.e (List.mem_map_of_mem hx)
 have HI0:Hid (EI w [] W0):=Lib.hid ⟨⟨_,[],k0,RowK.nil W0⟩,hb0,by omega⟩
 have HS0':=Lib.hid hs0
 have HS0:=Lib.hid hs0
 clear k0 k1 hix0 h hS hok hlt hb0 hu64
 refine (callsIn_wide (n:=7)).1 ?_
 refine callsIn_of_wp_marks Tryz.func18 rfl trivial ?_ rfl
 simp only [Tryz.ntmps18,List.size_toArray,List.length_cons,List.length_nil,Nat.reduceAdd,Nat.reduceSub,Array.replicate_succ,Array.replicate_zero,List.push_toArray,List.append_toArray,List.nil_append,List.cons_append]
 gi_wp2_with (refine ⟨trivial,?_⟩;gi_at_call 60;refine (callsIn_wide.2 (all_any px _)).mono ?_;rintro e w1 ⟨rfl,rfl⟩)
 rw [←hW0]
 clear hW0
 refine wpIn_rangeFunc_ownH (F:=Fence.wide) rfl (by omega) (gf:=104) (lb:=#[.pointer (some ⟨w.heap.size+1,0,none⟩)]) rfl trivial (enters_of Tryz.func104 (by kernel_rfl) rfl)
  HSEQ.out kpE_t ?hKb (Below.refl _ _) (fun _=>rfl)
  (fun pre W=>EI w (pre.map (·.1.e)) W)
  (fun _ _ _=>False) ?hI ?hIx HI0.out
  (AxE w (fun (x:EntOf xs) bx=>#[.pointer (some ⟨px,0,none⟩),undef,.slice none 0 0,.pointer (some ⟨w.heap.size,0,none⟩),.pointer (some ⟨bx,0,none⟩),.pointer (some ⟨px,0,none⟩),.func (.func 104) #[] #[.pointer (some ⟨w.heap.size+1,0,none⟩)],x.1.v,undef,undef,undef,undef,undef,undef])) ?hAx ?assign ?body ?done ?stop
 case hKb =>
  intro W l o o' hl hget hcl hwl
  have:=HS0.out
  refine kpE_putObj (by omega) hget hcl (fun k hk=>?_)
  rcases hk with rfl|⟨v,hv,hk⟩
  ·exact .inl rfl
  ·refine .inr ⟨v,?_,hk⟩
   rw [World.cell?_of_block (w:=W) (putObj_heap W l o' (by show w.heap.size≠l;omega))] at hv
   exact hv
 case hI =>
  intro pre X Y row hs hg hr
  exact hs.walk hg (fun r e=>⟨by have:=(hr r e).1;have:=HS0.out;omega,(hr r e).2⟩)
 case hIx =>
  intro _ _ _ _ _ hs _ _
  exact hs
 case hAx =>
  rintro x a' _ X Y row ⟨bx,A,c,h1,h2,h3,h4,h5,v,h6,h7⟩ hg hr
  have nc:∀ (k:Nat) (cs:Array Value) (t:TypeId) (fz:Nat × Nat),X.heap[k]? = some (Obj.cells cs t fz)→Y.heap[k]? = X.heap[k]?:=fun k cs t fz hk=>hg.block k (lt_of_block hk) (fun e=>by
   obtain ⟨o,ho,hc⟩:=(hr k e.symm).2
   rw [hk] at ho;cases ho;cases hc)
  exact ⟨bx,A,c,h1,h2,h3,h4,(nc _ _ _ _ h5).trans h5,v,(nc _ _ _ _ h6).trans h6,h7⟩
 case assign =>
  intro l pre x W K hIW hK
  obtain ⟨A5,c5,e5,he5⟩:=HENT.out x.1 x.2
  have hfin:=hK { tmps:=#[.pointer (some ⟨px,0,none⟩),undef,.slice none 0 0,.pointer (some ⟨w.heap.size,0,none⟩),.pointer (some ⟨W.heap.size,0,none⟩),.pointer (some ⟨px,0,none⟩),.func (.func 104) #[] #[.pointer (some ⟨w.heap.size+1,0,none⟩)],.agg #[.string x.1.e.uri,.int .i64 x.1.e.ver,.slice A5 x.1.e.exs.length c5],undef,undef,undef,undef,undef,undef],defers:=[] }
   (W.alloc (.cells #[.string x.1.e.uri,.int .i64 x.1.e.ver,.slice A5 x.1.e.exs.length c5] 55)) ⟨by simp,fun k o _ hk _=>(Below.heap_alloc _ _ _ (lt_of_block hk)).trans hk⟩
   ⟨by simp,fun k o hk _ _=>(Below.heap_alloc _ _ _ (lt_of_block hk)).trans hk,fun k hk=>by
    have hzz:=hIW.size
    rcases hk with rfl|⟨v,hv,hk⟩
    ·exact .inl (.inl rfl)
    ·refine .inl (.inr ⟨v,?_,hk⟩)
     rw [World.cell?_of_block (w:=W) (a:=⟨w.heap.size,0,none⟩) (Below.heap_alloc _ _ _ (by show w.heap.size < W.heap.size;omega))] at hv
     exact hv⟩ (hIW.go (box_below W _)) ⟨W.heap.size,A5,c5,hIW.size,e5,he5,by dsimp only;rw [e5],heap_alloc_new W _,by
    obtain ⟨v,us,q1,q2⟩:=hIW.row
    exact ⟨v,q1.alloc _,fun e=>by have:=(q2.own.lt _ e).2;omega⟩⟩
  have HF:=Lib.hid hfin
  clear hK hfin
  dsimp only [encE]
  rw [e5]
  clear e5 he5
  gi_wp2
  exact HF.out
 case body =>
  rintro l pre x a' W hl0 hloop hIW ⟨bx,A5,c5,hbx,e5,he5,rfl,hxb,v1',hv1',hnb⟩ hlen
  obtain ⟨hu1,hu2⟩:=okE_uri (HOK.out x.1 x.2)
  have hrt:=okE_exs (HOK.out x.1 x.2)
  have hxl2:=rightX_len hrt
  have hro:∀ y∈x.1.e.exs,RowOk y.ty:=fun y hy=>RowOk.of_parts (by have:=(rightT_iff.1 (right_each hrt y hy).2.1).1;omega)
  obtain ⟨v1,us1,hv1,hr1⟩:=hIW.row
  have hzW:=hIW.size
  have hpl:pre.length≤100000:=by omega
  have hcl:=ixcloneCl_any x.1.e hro (.agg #[.string x.1.e.uri,.int .i64 x.1.e.ver,.slice A5 x.1.e.exs.length c5]) W.drew ⟨A5,c5,rfl,by omega,he5.keep fun g (hg:g < w.heap.size)=>⟨by show g < W.heap.size;omega,hIW.below.block g hg⟩⟩ (by omega)
  obtain ⟨x0,x1,x2⟩:=box3 hxb
  have p0:=hv1.cell
  have hf0:=hv1.frozen
  have HV1:=Lib.hid hv1;have HR1:=Lib.hid hr1;have HI:=Lib.hid hIW;have HXB:=Lib.hid hxb
  obtain ⟨Al,cl,hlf,-,-⟩:=hr1.form
  rw [List.length_map] at hlf
  obtain ⟨NL,hNL⟩:∃ NL,NL=pre.length:=⟨_,rfl⟩
  rw [←hNL] at hlf
  have HNL:=Lib.hid hNL
  have hvv:v1'=v1:=by
   have h1:some (Obj.cells #[v1'] 45 (0,0))=some (Obj.cells #[v1] 45 (0,0)):=hv1'.symm.trans hv1
   simpa using h1
  subst hvv
  subst hlf
  have HNB:=Lib.hid hnb
  have HSK:Hid (∀ W':World,W'.heap[bx]? = W.heap[bx]?→W'.cell? ⟨bx,0,none⟩=some (.string x.1.e.uri)∧W'.cell? ⟨bx,1,none⟩=some (.int .i64 x.1.e.ver)∧W'.cell? ⟨bx,2,none⟩=some (.slice A5 x.1.e.exs.length c5)):=Lib.hid fun W' h=>box3 (h.trans HXB.out)
  have HS0:=Lib.hid (HSK.out W.drew rfl)
  have HBX:=Lib.hid (lt_blk hxb)
  have HP0:Hid (W.drew.cell? ⟨w.heap.size,0,none⟩=some (.slice Al NL cl)):=Lib.hid p0
  have HCL:Hid (Calls Tryz.prog 61 #[.agg #[.string x.1.e.uri,.int .i64 x.1.e.ver,.slice A5 x.1.e.exs.length c5]] W.drew fun e w2=>∃ A2 c2,e=.returned (.agg #[.string x.1.e.uri,.int .i64 x.1.e.ver,.slice A2 x.1.e.exs.length c2])∧Hid (ExsC (fun g=>W.heap.size≤g∧g < w2.heap.size) w2 (.slice A2 x.1.e.exs.length c2) x.1.e.exs)∧Hid (Below W.heap.size W w2)∧w2.cell? ⟨w.heap.size,0,none⟩=some (.slice Al NL cl)):=Lib.hid (by
   refine hcl.mono ?_
   rintro e w2 ⟨A2,c2,rfl,hx2,hb2⟩
   have hb3:Below W.heap.size W w2:=((Below.refl _ W).drew).trans hb2
   exact ⟨A2,c2,rfl,Lib.hid hx2,Lib.hid hb3,(hb3.cell (p:=⟨w.heap.size,0,none⟩) (by show w.heap.size < W.heap.size;omega)).trans p0⟩)
  have HU64:Hid (x.1.e.uri.size≤9223372036854775807):=Lib.hid (by omega)
  have hn1:NL≤100000:=by omega
  clear x0 x1 x2 p0 hf0 hcl hv1 hv1' hr1 hIW hxb hnb hro hrt hu1 hu2 hxl2 he5 hNL
  have hmap:(pre ++ [x]).map (·.1.e)=pre.map (·.1.e) ++ [x.1.e]:=by simp
  have HMAP:=Lib.hid hmap
  have HL1:Hid ((pre.map (·.1.e)).length=NL):=Lib.hid (by rw [List.length_map,HNL.out])
  clear hmap
  dsimp only
  rw [e5]
  clear e5
  gi_wp2
  refine wpIn_round_held (S:=fun w2:World=>w2.cell? ⟨bx,0,none⟩=some (.string x.1.e.uri)∧w2.cell? ⟨bx,1,none⟩=some (.int .i64 x.1.e.ver)∧w2.cell? ⟨bx,2,none⟩=some (.slice A5 x.1.e.exs.length c5)) (by kernel_rfl) (by kernel_rfl) (by rintro ⟨_,_,h⟩;exact h) ?_
  refine wpAnyH_take (i:=1) (v:=.agg #[.string x.1.e.uri,.int .i64 x.1.e.ver,.slice A5 x.1.e.exs.length c5]) rfl (by kernel_rfl) (by kernel_rfl) (by kernel_rfl) (fun _ _ _ h=>h) (Or.inl ⟨by rfl,fun w' hS=>by obtain ⟨s0,s1,s2⟩:=hS;go_simp⟩) HS0.out ?_
  refine wpAnyH_all (rs:=[0,2]) (by kernel_rfl) (by simp) ?_
  intro i hi
  simp only [List.mem_cons,List.not_mem_nil,or_false] at hi
  rcases hi with rfl|rfl
  ·refine wpOp_of rfl rfl (fun K hK=>?_)
   have q0:=HP0.out
   go_simp
   clear q0
   refine hK _ _ ⟨HS0.out,?_⟩
   clear hK K
   refine wpAnyH_all (rs:=[2]) (by kernel_rfl) (by simp) ?_
   intro i hi
   simp only [List.mem_cons,List.not_mem_nil,or_false] at hi
   subst hi
   refine wpOp_of rfl rfl (fun K hK=>?_)
   go_simp
   refine HCL.out.mono ?_
   rintro e w2 ⟨A2,c2,rfl,HX2,HB2,q3⟩
   have HQ3:=Lib.hid q3
   have HS2:=Lib.hid (HSK.out w2 (HB2.out.block _ HBX.out))
   refine hK _ _ ⟨HS2.out,?_⟩
   clear hK K q3
   have HB4:Hid (Below W.heap.size W (w2.alloc (.cells #[.string x.1.e.uri,.int .i64 x.1.e.ver,.slice A2 x.1.e.exs.length c2] 55))):=Lib.hid (HB2.out.alloc (by have:=HB2.out.size;omega) _)
   have HQ4:Hid ((w2.alloc (.cells #[.string x.1.e.uri,.int .i64 x.1.e.ver,.slice A2 x.1.e.exs.length c2] 55)).cell? ⟨w.heap.size,0,none⟩=some (.slice Al NL cl)):=Lib.hid (Lib.cell?_alloc_some _ HQ3.out)
   have HS4:=Lib.hid (HSK.out (w2.alloc (.cells #[.string x.1.e.uri,.int .i64 x.1.e.ver,.slice A2 x.1.e.exs.length c2] 55)) (HB4.out.block _ HBX.out))
   refine wpAnyH_all (rs:=[3]) (by kernel_rfl) (by simp) ?_
   intro i hi
   simp only [List.mem_cons,List.not_mem_nil,or_false] at hi
   subst hi
   refine wpOp_of rfl rfl (fun K hK=>?_)
   go_simp
   refine hK _ _ ⟨HS4.out,?_⟩
   clear hK K
   refine wpAnyH_all (rs:=[4]) (by kernel_rfl) (by simp) ?_
   intro i hi
   simp only [List.mem_cons,List.not_mem_nil,or_false] at hi
   subst hi
   refine wpOp_of rfl rfl (fun K hK=>?_)
   have hown2:=(RowK.below (R:=EntC) EntC.keep HR1.out HB2.out).own
   rw [HL1.out] at hown2
   obtain ⟨us',hus⟩:∃ us',us'=us1.flatMap flatC:=⟨_,rfl⟩
   rw [←hus] at hown2
   have HUS:=Lib.hid hus
   have HOWN2:=Lib.hid hown2
   have hz2:=HB2.out.size
   clear hus hown2
   refine wp_appK _ (.tmp 8) (.tmp 11) 45 rfl (w.heap.size+2) 55 3 enE _ NL us' rfl (World.ownsRow.alloc HOWN2.out _) ⟨w2.heap.size,0,none⟩ 1 1 [.string x.1.e.uri,.int .i64 x.1.e.ver,.slice A2 x.1.e.exs.length c2] rfl rfl (cells_new _ _ _) (one3 _ _ _ _ _) (by omega) (by simp;omega) (fun v3 w3 hown3 hg3 hat3=>?_)
   have hb3:=hg3.block bx (by have:=HB4.out.size;have:=HBX.out;omega) (fun e=>HNB.out e.symm)
   have HS5:=Lib.hid (HSK.out w3 (hb3.trans (HB4.out.block _ HBX.out)))
   have hl3:Boxed w3 w.heap.size 45 (.slice Al NL cl):=(hg3.block _ (by have:=HB4.out.size;omega) (fun e=>by have:=(HR1.out.own.lt _ e.symm).1;omega)).trans ((HB4.out.block _ (by omega)).trans HV1.out)
   have hf3:=hl3.frozen
   have hc3:=hl3.cell
   have HNX:=Lib.hid (HI.out.next rfl HV1.out HR1.out HB2.out HX2.out HU64.out (by rw [HL1.out,←HUS.out];exact hown3) hg3 hat3)
   have HS6:=Lib.hid (HSK.out (w3.setCell ⟨w.heap.size,0,none⟩ v3) ((setCell_block (a:=⟨w.heap.size,0,none⟩) (show bx≠w.heap.size by omega)).trans (hb3.trans (HB4.out.block _ HBX.out))))
   refine hK _ _ ⟨HS5.out,?_⟩
   clear hK K
   refine wpAnyH_all (rs:=[5]) (by kernel_rfl) (by simp) ?_
   intro i hi
   simp only [List.mem_cons,List.not_mem_nil,or_false] at hi
   subst hi
   refine wpOp_of rfl rfl (fun K hK=>?_)
   obtain ⟨A3,c3,hv3⟩:=ownsRow_form hown3
   clear hown3 hg3 hat3 hl3 hb3
   subst hv3
   go_simp
   refine hK _ _ ⟨HS6.out,?_⟩
   clear hK K
   refine wpAnyH_done (by kernel_rfl) ?_ _
   gi_wp2
   have:=HNX.out
   rw [←HMAP.out] at this
   rw [HS0'.out]
   exact this
  ·refine wpOp_of rfl rfl (fun K hK=>?_)
   go_simp
   refine HCL.out.mono ?_
   rintro e w2 ⟨A2,c2,rfl,HX2,HB2,q3⟩
   have HQ3:=Lib.hid q3
   have HS2:=Lib.hid (HSK.out w2 (HB2.out.block _ HBX.out))
   refine hK _ _ ⟨HS2.out,?_⟩
   clear hK K q3
   have HB4:Hid (Below W.heap.size W (w2.alloc (.cells #[.string x.1.e.uri,.int .i64 x.1.e.ver,.slice A2 x.1.e.exs.length c2] 55))):=Lib.hid (HB2.out.alloc (by have:=HB2.out.size;omega) _)
   have HQ4:Hid ((w2.alloc (.cells #[.string x.1.e.uri,.int .i64 x.1.e.ver,.slice A2 x.1.e.exs.length c2] 55)).cell? ⟨w.heap.size,0,none⟩=some (.slice Al NL cl)):=Lib.hid (Lib.cell?_alloc_some _ HQ3.out)
   have HS4:=Lib.hid (HSK.out (w2.alloc (.cells #[.string x.1.e.uri,.int .i64 x.1.e.ver,.slice A2 x.1.e.exs.length c2] 55)) (HB4.out.block _ HBX.out))
   refine wpAnyH_all (rs:=[0,3]) (by kernel_rfl) (by simp) ?_
   intro i hi
   simp only [List.mem_cons,List.not_mem_nil,or_false] at hi
   rcases hi with rfl|rfl
   ·refine wpOp_of rfl rfl (fun K hK=>?_)
    have q0:=HQ3.out
    go_simp
    clear q0
    refine hK _ _ ⟨HS2.out,?_⟩
    clear hK K
    refine wpAnyH_all (rs:=[3]) (by kernel_rfl) (by simp) ?_
    intro i hi
    simp only [List.mem_cons,List.not_mem_nil,or_false] at hi
    subst hi
    refine wpOp_of rfl rfl (fun K hK=>?_)
    go_simp
    refine hK _ _ ⟨HS4.out,?_⟩
    clear hK K
    refine wpAnyH_all (rs:=[4]) (by kernel_rfl) (by simp) ?_
    intro i hi
    simp only [List.mem_cons,List.not_mem_nil,or_false] at hi
    subst hi
    refine wpOp_of rfl rfl (fun K hK=>?_)
    have hown2:=(RowK.below (R:=EntC) EntC.keep HR1.out HB2.out).own
    rw [HL1.out] at hown2
    obtain ⟨us',hus⟩:∃ us',us'=us1.flatMap flatC:=⟨_,rfl⟩
    rw [←hus] at hown2
    have HUS:=Lib.hid hus
    have HOWN2:=Lib.hid hown2
    have hz2:=HB2.out.size
    clear hus hown2
    refine wp_appK _ (.tmp 8) (.tmp 11) 45 rfl (w.heap.size+2) 55 3 enE _ NL us' rfl (World.ownsRow.alloc HOWN2.out _) ⟨w2.heap.size,0,none⟩ 1 1 [.string x.1.e.uri,.int .i64 x.1.e.ver,.slice A2 x.1.e.exs.length c2] rfl rfl (cells_new _ _ _) (one3 _ _ _ _ _) (by omega) (by simp;omega) (fun v3 w3 hown3 hg3 hat3=>?_)
    have hb3:=hg3.block bx (by have:=HB4.out.size;have:=HBX.out;omega) (fun e=>HNB.out e.symm)
    have HS5:=Lib.hid (HSK.out w3 (hb3.trans (HB4.out.block _ HBX.out)))
    have hl3:Boxed w3 w.heap.size 45 (.slice Al NL cl):=(hg3.block _ (by have:=HB4.out.size;omega) (fun e=>by have:=(HR1.out.own.lt _ e.symm).1;omega)).trans ((HB4.out.block _ (by omega)).trans HV1.out)
    have hf3:=hl3.frozen
    have hc3:=hl3.cell
    have HNX:=Lib.hid (HI.out.next rfl HV1.out HR1.out HB2.out HX2.out HU64.out (by rw [HL1.out,←HUS.out];exact hown3) hg3 hat3)
    have HS6:=Lib.hid (HSK.out (w3.setCell ⟨w.heap.size,0,none⟩ v3) ((setCell_block (a:=⟨w.heap.size,0,none⟩) (show bx≠w.heap.size by omega)).trans (hb3.trans (HB4.out.block _ HBX.out))))
    refine hK _ _ ⟨HS5.out,?_⟩
    clear hK K
    refine wpAnyH_all (rs:=[5]) (by kernel_rfl) (by simp) ?_
    intro i hi
    simp only [List.mem_cons,List.not_mem_nil,or_false] at hi
    subst hi
    refine wpOp_of rfl rfl (fun K hK=>?_)
    obtain ⟨A3,c3,hv3⟩:=ownsRow_form hown3
    clear hown3 hg3 hat3 hl3 hb3
    subst hv3
    go_simp
    refine hK _ _ ⟨HS6.out,?_⟩
    clear hK K
    refine wpAnyH_done (by kernel_rfl) ?_ _
    gi_wp2
    have:=HNX.out
    rw [←HMAP.out] at this
    rw [HS0'.out]
    exact this
   ·refine wpOp_of rfl rfl (fun K hK=>?_)
    go_simp
    refine hK _ _ ⟨HS4.out,?_⟩
    clear hK K
    refine wpAnyH_all (rs:=[0]) (by kernel_rfl) (by simp) ?_
    intro i hi
    simp only [List.mem_cons,List.not_mem_nil,or_false] at hi
    subst hi
    refine wpOp_of rfl rfl (fun K hK=>?_)
    have q0:=HQ4.out
    go_simp
    clear q0
    refine hK _ _ ⟨HS4.out,?_⟩
    clear hK K
    refine wpAnyH_all (rs:=[4]) (by kernel_rfl) (by simp) ?_
    intro i hi
    simp only [List.mem_cons,List.not_mem_nil,or_false] at hi
    subst hi
    refine wpOp_of rfl rfl (fun K hK=>?_)
    have hown2:=(RowK.below (R:=EntC) EntC.keep HR1.out HB2.out).own
    rw [HL1.out] at hown2
    obtain ⟨us',hus⟩:∃ us',us'=us1.flatMap flatC:=⟨_,rfl⟩
    rw [←hus] at hown2
    have HUS:=Lib.hid hus
    have HOWN2:=Lib.hid hown2
    have hz2:=HB2.out.size
    clear hus hown2
    refine wp_appK _ (.tmp 8) (.tmp 11) 45 rfl (w.heap.size+2) 55 3 enE _ NL us' rfl (World.ownsRow.alloc HOWN2.out _) ⟨w2.heap.size,0,none⟩ 1 1 [.string x.1.e.uri,.int .i64 x.1.e.ver,.slice A2 x.1.e.exs.length c2] rfl rfl (cells_new _ _ _) (one3 _ _ _ _ _) (by omega) (by simp;omega) (fun v3 w3 hown3 hg3 hat3=>?_)
    have hb3:=hg3.block bx (by have:=HB4.out.size;have:=HBX.out;omega) (fun e=>HNB.out e.symm)
    have HS5:=Lib.hid (HSK.out w3 (hb3.trans (HB4.out.block _ HBX.out)))
    have hl3:Boxed w3 w.heap.size 45 (.slice Al NL cl):=(hg3.block _ (by have:=HB4.out.size;omega) (fun e=>by have:=(HR1.out.own.lt _ e.symm).1;omega)).trans ((HB4.out.block _ (by omega)).trans HV1.out)
    have hf3:=hl3.frozen
    have hc3:=hl3.cell
    have HNX:=Lib.hid (HI.out.next rfl HV1.out HR1.out HB2.out HX2.out HU64.out (by rw [HL1.out,←HUS.out];exact hown3) hg3 hat3)
    have HS6:=Lib.hid (HSK.out (w3.setCell ⟨w.heap.size,0,none⟩ v3) ((setCell_block (a:=⟨w.heap.size,0,none⟩) (show bx≠w.heap.size by omega)).trans (hb3.trans (HB4.out.block _ HBX.out))))
    refine hK _ _ ⟨HS5.out,?_⟩
    clear hK K
    refine wpAnyH_all (rs:=[5]) (by kernel_rfl) (by simp) ?_
    intro i hi
    simp only [List.mem_cons,List.not_mem_nil,or_false] at hi
    subst hi
    refine wpOp_of rfl rfl (fun K hK=>?_)
    obtain ⟨A3,c3,hv3⟩:=ownsRow_form hown3
    clear hown3 hg3 hat3 hl3 hb3
    subst hv3
    go_simp
    refine hK _ _ ⟨HS6.out,?_⟩
    clear hK K
    refine wpAnyH_done (by kernel_rfl) ?_ _
    gi_wp2
    have:=HNX.out
    rw [←HMAP.out] at this
    rw [HS0'.out]
    exact this
 case done =>
  rintro D ys W hD rfl hIW hK
  obtain ⟨v,us,hv,hr⟩:=hIW.row
  have hc:=hv.cell
  have hz:=hIW.size
  have HI:=Lib.hid hIW
  clear hIW
  gi_wp2
  refine ⟨by simp,.inl ⟨_,_,rfl,run_takeDeferred hK,?_⟩⟩
  have hY:=HI.out.walk (grownBy_putObj' W D (.deferred none)) (fun r e=>by cases e;exact ⟨by have:=HS0.out;omega,_,hK,rfl⟩)
  obtain ⟨v',us',hv',hr'⟩:=hY.row
  have hvv:v'=v:=by
   have h1:(W.putObj D (.deferred none)).cell? ⟨w.heap.size,0,none⟩=some v:=by
    rw [World.cell?_of_block (w:=W) (a:=⟨w.heap.size,0,none⟩) (putObj_heap W D _ (fun (e:w.heap.size=D)=>by have:=HS0.out;omega))];exact hc
   rw [hv'.cell] at h1
   exact Option.some.inj h1
  subst hvv
  refine ⟨_,results_tmp rfl _ _ _,v',rfl,?_,hY.below⟩
  have he:=RowK.entsC hr'
  have hm:xs.attach.map (·.1.e)=xs.map (·.e):=by
   rw [show (fun x:EntOf xs=>x.1.e)=(EnR.e ∘ Subtype.val) from rfl,←List.map_map,List.attach_map_subtype_val]
  rw [hm] at he
  exact EntsC.keep he fun g hg=>⟨⟨by omega,hg.2⟩,rfl⟩
 case stop =>
  rintro D c pre W _ _ h _
  exact h.elim
theorem entries_any (w:World) (px pj mb:Nat) (xs:List EnR) (S:Nat→Prop) (h:IxAt w px pj mb xs S) (hS:∀ k,S k→k < w.heap.size) (hok:Ix.Good (xs.map (·.e))) (hxl:xs.length≤100000) :
  Calls Tryz.prog 18 #[.pointer (some ⟨px,0,none⟩)] w fun e w'=>∃ v,e=.returned v∧EntsAt (fun g=>w.heap.size≤g∧g < w'.heap.size) w' v (xs.map (·.e))∧Below w.heap.size w w' :=
 (entriesCl_any w px pj mb xs S h hS hok hxl).mono (by rintro e w' ⟨v,rfl,h,hb⟩;exact ⟨v,rfl,EntsC.at_ h,hb⟩)
end Go.Proofs.YtaalbcfpacpgfaaGreat
