/- readBase. -/
import Derived.Test.YtaalbcfpacpgfaaGreatZaJB
set_option linter.unusedVariables false
set_option linter.unusedSimpArgs false
namespace Go.Proofs.YtaalbcfpacpgfaaGreat
open Go.RowKit Go.Lib Go.Vfs Go.Par Go.Shelf
section
variable {P:Program} {md:Region.Mode} {ops:Array Oper} {Q:Exit→Act→World→Prop}
theorem takeS {S:World→Prop} {i s:Nat} {oi:Oper} {v:Value} {fuel:Nat} {listed:Array Bool} {a:Act} {w:World} (hi:ops[i]? = some oi:=by rfl) (hd:oi.dst=some s:=by rfl)
  (hs:Region.noSelect ops=true:=by kernel_rfl) (hf:Region.free md ops listed i=true:=by kernel_rfl) (hr:(Region.ready md ops listed).contains i=true:=by kernel_rfl)
  (hQ:∀ c a w,Q (.panic c) (a.put oi.dst v) w→Q (.panic c) a w:=by exact fun _ _ _ h=>h) (hy:YieldsIf P ops S oi v a) (hS:S w)
  (h:wpAnyH P md ops Q S fuel (listed.setIfInBounds i true) { tmps:=a.tmps.setIfInBounds s v,defers:=a.defers } w):wpAnyH P md ops Q S (fuel+1) listed a w :=
 wpAnyH_take hi hs hf hr hQ hy hS (by rw [hd];exact h)
end
attribute [local go_sem] Oper.semAt_some
section
variable {b:List UInt8}
def genOf (l:List (FrOf b)):Nat:=match l with | []=>0 | x :: _=>x.1.gen
def OkB (l:List (FrOf b)):Prop:=match l with | []=>True | x :: xs=>x.1.pay.length=4∧∀ y∈xs,y.1.gen=x.1.gen
def cntV (A:Option Addr) (c:Nat) (l:List (FrOf b)):Value:=match l with | []=>.slice none 0 0 | x :: _=>sliced A (x.1.start+12) x.1.stop c 1
theorem genOf_snoc {l:List (FrOf b)} (h:l≠[]) (x:FrOf b):genOf (l ++ [x])=genOf l:=by cases l <;> simp_all [genOf]
theorem cntV_snoc {A:Option Addr} {c:Nat} {l:List (FrOf b)} (h:l≠[]) {x:FrOf b}:cntV A c (l ++ [x])=cntV A c l:=by cases l <;> simp_all [cntV]
theorem drop_snoc {l:List (FrOf b)} (h:l≠[]) (x:FrOf b):(l ++ [x]).drop 1=l.drop 1 ++ [x]:=by cases l <;> simp_all
theorem OkB.snoc {l:List (FrOf b)} (ho:OkB l) (h:l≠[]) {x:FrOf b} (hx:x.1.gen=genOf l):OkB (l ++ [x]):=by
 cases l with
 | nil=>exact absurd rfl h
 | cons y l =>
  refine ⟨ho.1,fun z hz=>?_⟩
  rcases List.mem_append.1 hz with hz|hz
  ·exact ho.2 z hz
  ·simp at hz;subst hz;exact hx
def baseOf (b:List UInt8):Option (Nat × List (List UInt8)):=match frs b with
 | []=>none
 | x :: xs=>if x.1.pay.length=4∧(∀ y∈xs,y.1.gen=x.1.gen)∧endOf (x :: xs)=b.length∧xs.length=num4 x.1.pay then some (x.1.gen,pays xs) else none
theorem endOf_pos {l:List (FrOf b)} (h:l≠[]):12≤endOf l:=by
 have:l=l.dropLast ++ [l.getLast h]:=(List.dropLast_concat_getLast h).symm
 rw [this,endOf_snoc]
 have:=(frAt_some (l.getLast h).2).2.1
 omega
theorem endOf_le {l:List (FrOf b)}:endOf l≤b.length:=by
 by_cases h:l=[]
 ·subst h;simp [endOf]
 ·have:l=l.dropLast ++ [l.getLast h]:=(List.dropLast_concat_getLast h).symm
  rw [this,endOf_snoc]
  exact (frAt_some (l.getLast h).2).2.2.1
end
theorem wp_region_heldN {P:Program} {ops:Array Oper} {Q:Exit→Act→World→Prop} {S:World→Prop} {id:Nat} {a:Act} {w:World} (hm:P.follows .mixedOrders=true)
  (h:wpAnyH P .any ops (Exit.then (fun a w=>Q .normal a w) (fun _ _ _=>False)) S ops.size (Array.replicate ops.size false) a w.drew):(Code.region id ops true).wp P Q a w :=
 wp_mono (wp_region_held hm h) (by
  intro e a w h
  cases e <;> first | exact h | exact h.elim)
def BK (w:World) (G:Nat→Prop) (k:Nat):Prop:=k=w.heap.size+4∨(k < w.heap.size∧¬ G k)
structure RBI (w:World) (pj p:Nat) (lv:Value) (us:List Value) (log:List (List UInt8)) (G:Nat→Prop) (A:Option Addr) (c:Nat) (b:List UInt8) (pre:List (FrOf b)) (W:World):Prop where
 c0:W.heap[w.heap.size]? = some (.cells #[.pointer (some ⟨pj,0,none⟩)] 27 (0,0))
 c1:W.heap[w.heap.size+1]? = some (.cells #[.bool false] 4 (0,0))
 c2:W.heap[w.heap.size+2]? = some (.cells #[cntV A c pre] 24 (0,0))
 c3:W.heap[w.heap.size+3]? = some (.cells #[.int .i64 (endOf pre:Nat)] 3 (0,0))
 c4:W.heap[w.heap.size+4]? = some (.cells #[.slice A b.length c] 24 (0,0))
 jv:∃ bv bs G',JV W pj p (genOf pre) bv lv bs us (pays (pre.drop 1)) log G'∧∀ k,G' k→G k∨w.heap.size+5≤k
 kept:Kept G w W
 ok:OkB pre
 size:w.heap.size+5≤W.heap.size
section
variable {w W W':World} {pj p:Nat} {lv:Value} {us:List Value} {log:List (List UInt8)} {G:Nat→Prop} {A:Option Addr} {c:Nat} {b:List UInt8} {pre:List (FrOf b)}
theorem RBI.walk (h:RBI w pj p lv us log G A c b pre W) (hG:∀ k,G k→k < w.heap.size) {row:Option Nat} (hg:W.grownBy W' row) (hr:∀ r,row=some r→w.heap.size+5≤r∧∃ o:Obj,W.heap[r]? = some o∧o.isCells=false):RBI w pj p lv us log G A c b pre W':=by
 have hz:=h.size
 have low:∀ k,k < w.heap.size+5→W'.heap[k]? = W.heap[k]?:=fun k hk=>hg.block k (by omega) (fun e=>by have:=(hr k e.symm).1;omega)
 obtain ⟨bv,bs,G',h1,h2⟩:=h.jv
 exact ⟨(low _ (by omega)).trans h.c0,(low _ (by omega)).trans h.c1,(low _ (by omega)).trans h.c2,(low _ (by omega)).trans h.c3,(low _ (by omega)).trans h.c4,⟨bv,bs,G',h1.walk hg (fun r e=>(hr r e).2),h2⟩,h.kept.grown hg (fun k e=>.inr (by have:=(hr k e).1;omega)),h.ok,by have:=hg.size;omega⟩
theorem RBI.go (h:RBI w pj p lv us log G A c b pre W) (hb:Below W.heap.size W W'):RBI w pj p lv us log G A c b pre W':=by
 have hz:=h.size
 obtain ⟨bv,bs,G',h1,h2⟩:=h.jv
 exact ⟨(hb.block _ (by omega)).trans h.c0,(hb.block _ (by omega)).trans h.c1,(hb.block _ (by omega)).trans h.c2,(hb.block _ (by omega)).trans h.c3,(hb.block _ (by omega)).trans h.c4,⟨bv,bs,G',h1.go hb,h2⟩,h.kept.trans' (Kept.of_below hb),h.ok,by have:=hb.size;omega⟩
end
theorem RBI.next {w W X w2 w5:World} {pj p:Nat} {lv bv1 bv' u2:Value} {bs1 us:List Value} {log:List (List UInt8)} {G G1:Nat→Prop} {A:Option Addr} {c:Nat} {b:List UInt8} {pre:List (FrOf b)} (h:RBI w pj p lv us log G A c b pre W)
  (hG:∀ k,G k→k < w.heap.size) (hjv:JV W pj p (genOf pre) bv1 lv bs1 us (pays (pre.drop 1)) log G1) (hne:pre≠[]) (hG1:∀ k,G1 k→G k∨w.heap.size+5≤k) (hb:Below W.heap.size W X) (hb2:Below X.heap.size X w2) (x:FrOf b) (hx:x.1.gen=genOf pre)
  (hu:Par.Own w2 X.heap.size 5 u2 (byteCells x.1.pay)) (o:Obj) (hown:w5.ownsRow 0 24 1 bv' (bs1.length+1) (bs1 ++ [u2])) (hg:(w2.alloc o).grownBy w5 bv1.ownBlock) (hat:bv'.ownBlock=bv1.ownBlock∨bv'.ownBlock=some (w2.heap.size+1)) :
  KeepsFrom (w.heap.size+5) W ((w5.setCell ⟨pj,2,none⟩ bv').setCell ⟨w.heap.size+3,0,none⟩ (.int .i64 (x.1.stop:Nat)))∧KpS (BK w G) W ((w5.setCell ⟨pj,2,none⟩ bv').setCell ⟨w.heap.size+3,0,none⟩ (.int .i64 (x.1.stop:Nat))) ∧
   RBI w pj p lv us log G A c b (pre ++ [x]) ((w5.setCell ⟨pj,2,none⟩ bv').setCell ⟨w.heap.size+3,0,none⟩ (.int .i64 (x.1.stop:Nat))):=by
 have hz:=h.size
 have hzb:=hb.size
 have hzb2:=hb2.size
 have hzg:=hg.size
 simp only [World.size_alloc] at hzg
 have hpj:G1 pj:=hjv.gpj
 have b4:Below W.heap.size W (w2.alloc o):=(hb.trans (hb2.mono hzb)).alloc (by omega) o
 have hjv4:=hjv.go b4
 have hul:bs1.length=(pays (pre.drop 1)).length:=by have:=hjv.bown.1;simpa using this
 rw [hul] at hown
 have hu4:Par.Own (w2.alloc o) X.heap.size 5 u2 (byteCells x.1.pay):=hu.alloc o
 have hjv5:=hjv4.pushB hu4 (fun g e hg1=>by have:=(hu.lt g e).1;have:=hjv.lt g hg1;omega) hown hg (by simpa using hat)
 obtain ⟨oj,hoj,hcj⟩:=hjv.cel pj hpj
 have hpjlt:=hjv.lt pj hpj
 have hll:∀ k,bv1.ownBlock=some k→G1 k∧k≠pj:=fun k e=>⟨(hjv.gb k e).1,(hjv.gb k e).2⟩
 have hpjs:G pj∨w.heap.size+5≤pj:=hG1 pj hpj
 have n1:pj≠w.heap.size+3:=by rcases hpjs with h1 | h1;(have:=hG pj h1;omega);omega
 have same:∀ k,k < W.heap.size→k≠pj→k≠w.heap.size+3→bv1.ownBlock≠some k→((w5.setCell ⟨pj,2,none⟩ bv').setCell ⟨w.heap.size+3,0,none⟩ (.int .i64 (x.1.stop:Nat))).heap[k]? = W.heap[k]?:=fun k hk h1 h2 h3=>by
  rw [setCell_block h2,setCell_block h1,hg.block k (by simp;omega) (fun e=>h3 e.symm)]
  exact b4.block k hk
 have hszF:((w5.setCell ⟨pj,2,none⟩ bv').setCell ⟨w.heap.size+3,0,none⟩ (.int .i64 (x.1.stop:Nat))).heap.size=w5.heap.size:=by simp [World.setCell]
 have low:∀ k,k < w.heap.size+5→¬ G k→k≠w.heap.size+3→((w5.setCell ⟨pj,2,none⟩ bv').setCell ⟨w.heap.size+3,0,none⟩ (.int .i64 (x.1.stop:Nat))).heap[k]? = W.heap[k]?:=fun k hk hn h1=>by
  refine same k (by omega) (fun e=>?_) h1 (fun e=>?_)
  ·subst e;rcases hpjs with h2 | h2;exact hn h2;omega
  ·rcases hG1 k (hll k e).1 with h2 | h2;exact hn h2;omega
 refine ⟨⟨by omega,fun k ob hB hk hc=>?_⟩,⟨by omega,fun k hk=>?_⟩,⟨?_,?_,?_,?_,?_,⟨bv',bs1 ++ [u2],fun b=>(G1 b∧bv1.ownBlock≠some b)∨u2.ownBlock=some b∨bv'.ownBlock=some b,?_,fun k hk=>?_⟩,?_,h.ok.snoc hne hx,by omega⟩⟩
 ·refine (same k (lt_of_block hk) (fun e=>?_) (by omega) (fun e=>?_)).trans hk
  ·subst e;rw [hoj] at hk;cases hk;rw [hcj] at hc;cases hc
  ·obtain ⟨o2,ho2,hc2⟩:=own_cel hjv.bown k e
   rw [ho2] at hk;cases hk;rw [hc2] at hc;cases hc
 ·rcases hk with rfl | ⟨hk,hn⟩
  ·exact low _ (by omega) (fun hg1=>by have:=hG _ hg1;omega) (by omega)
  ·exact low k (by omega) hn (by omega)
 ·exact (low _ (by omega) (fun hg1=>by have:=hG _ hg1;omega) (by omega)).trans h.c0
 ·exact (low _ (by omega) (fun hg1=>by have:=hG _ hg1;omega) (by omega)).trans h.c1
 ·rw [cntV_snoc hne];exact (low _ (by omega) (fun hg1=>by have:=hG _ hg1;omega) (by omega)).trans h.c2
 ·rw [endOf_snoc]
  have e1:(w5.setCell ⟨pj,2,none⟩ bv').heap[w.heap.size+3]? = some (.cells #[.int .i64 (endOf pre:Nat)] 3 (0,0)):=by
   rw [setCell_block (Ne.symm n1),hg.block _ (by simp;omega) (fun e=>?_),b4.block _ (by omega)]
   ·exact h.c3
   ·rcases hG1 _ (hll _ e.symm).1 with h2 | h2
    ·have:=hG _ h2;omega
    ·omega
  exact one_setJ e1
 ·exact (low _ (by omega) (fun hg1=>by have:=hG _ hg1;omega) (by omega)).trans h.c4
 ·rw [genOf_snoc hne,drop_snoc hne,pays_snoc]
  refine hjv5.block fun k hk=>setCell_block (fun (e:k=w.heap.size+3)=>?_)
  subst e
  rcases hk with ⟨hk,-⟩|hk|hk
  ·rcases hG1 _ hk with h2 | h2
   ·have:=hG _ h2;omega
   ·omega
  ·have:=(hu.lt _ hk).1;omega
  ·rcases hat with e1 | e1
   ·rcases hG1 _ (hll _ (e1 ▸ hk)).1 with h2 | h2
    ·have:=hG _ h2;omega
    ·omega
   ·rw [e1] at hk;injection hk with hk;omega
 ·rcases hk with ⟨hk,-⟩ | hk | hk
  ·exact hG1 k hk
  ·right;have:=(hu.lt k hk).1;omega
  ·rcases hat with e1 | e1
   ·exact hG1 k (hll k (e1 ▸ hk)).1
   ·rw [e1] at hk;cases hk;right;omega
 ·have hK5:Kept G w w5:=(h.kept.trans' (Kept.of_below b4)).grown hg (fun k e=>by rcases hG1 k (hll k e).1 with h2 | h2;exact .inl h2;right;omega)
  exact (hK5.setCell (p:=⟨pj,2,none⟩) (by rcases hpjs with h2 | h2;exact .inl h2;right;simp;omega) _).setCell (p:=⟨w.heap.size+3,0,none⟩) (.inr (by simp)) _
theorem RBI.first {w W:World} {pj p:Nat} {lv:Value} {us:List Value} {log:List (List UInt8)} {G:Nat→Prop} {A:Option Addr} {c:Nat} {b:List UInt8} (h:RBI w pj p lv us log G A c b [] W) (hG:∀ k,G k→k < w.heap.size) (x:FrOf b) (hx:x.1.pay.length=4) (hg:x.1.gen < 4294967296) :
  KeepsFrom (w.heap.size+5) W (((W.setCell ⟨w.heap.size+2,0,none⟩ (cntV A c [x])).setCell ⟨pj,1,none⟩ (.int .u32 (x.1.gen:Nat))).setCell ⟨w.heap.size+3,0,none⟩ (.int .i64 (x.1.stop:Nat)))∧KpS (BK w G) W (((W.setCell ⟨w.heap.size+2,0,none⟩ (cntV A c [x])).setCell ⟨pj,1,none⟩ (.int .u32 (x.1.gen:Nat))).setCell ⟨w.heap.size+3,0,none⟩ (.int .i64 (x.1.stop:Nat))) ∧
   RBI w pj p lv us log G A c b [x] (((W.setCell ⟨w.heap.size+2,0,none⟩ (cntV A c [x])).setCell ⟨pj,1,none⟩ (.int .u32 (x.1.gen:Nat))).setCell ⟨w.heap.size+3,0,none⟩ (.int .i64 (x.1.stop:Nat))):=by
 have hz:=h.size
 obtain ⟨bv,bs,G1,hjv,hG1⟩:=h.jv
 have hpj:=hjv.gpj
 have hpjs:G pj∨w.heap.size+5≤pj:=hG1 pj hpj
 have n2:pj≠w.heap.size+2:=by rcases hpjs with h1 | h1;(have:=hG pj h1;omega);omega
 have n3:pj≠w.heap.size+3:=by rcases hpjs with h1 | h1;(have:=hG pj h1;omega);omega
 have hnG:∀ k,G1 k→k≠w.heap.size+2∧k≠w.heap.size+3:=fun k hk=>by
  rcases hG1 k hk with h1|h1
  ·have:=hG k h1;omega
  ·omega
 obtain ⟨oj,hoj,hcj⟩:=hjv.cel pj hpj
 have hsz:(((W.setCell ⟨w.heap.size+2,0,none⟩ (cntV A c [x])).setCell ⟨pj,1,none⟩ (.int .u32 (x.1.gen:Nat))).setCell ⟨w.heap.size+3,0,none⟩ (.int .i64 (x.1.stop:Nat))).heap.size=W.heap.size:=by simp [World.setCell]
 have same:∀ k,k≠pj→k≠w.heap.size+2→k≠w.heap.size+3→(((W.setCell ⟨w.heap.size+2,0,none⟩ (cntV A c [x])).setCell ⟨pj,1,none⟩ (.int .u32 (x.1.gen:Nat))).setCell ⟨w.heap.size+3,0,none⟩ (.int .i64 (x.1.stop:Nat))).heap[k]? = W.heap[k]?:=fun k h1 h2 h3=>by
  rw [setCell_block h3,setCell_block h1,setCell_block h2]
 have jv1:JV (W.setCell ⟨w.heap.size+2,0,none⟩ (cntV A c [x])) pj p (genOf (b:=b) []) bv lv bs us (pays (([]:List (FrOf b)).drop 1)) log G1:=hjv.block fun k hk=>setCell_block (hnG k hk).1
 have jv2:=jv1.setGen x.1.gen hg
 have jv3:=jv2.block (w':=((W.setCell ⟨w.heap.size+2,0,none⟩ (cntV A c [x])).setCell ⟨pj,1,none⟩ (.int .u32 (x.1.gen:Nat))).setCell ⟨w.heap.size+3,0,none⟩ (.int .i64 (x.1.stop:Nat))) fun k hk=>setCell_block (hnG k hk).2
 refine ⟨⟨by omega,fun k ob hB hk hc=>?_⟩,⟨by omega,fun k hk=>?_⟩,⟨?_,?_,?_,?_,?_,⟨bv,bs,G1,jv3,hG1⟩,?_,⟨hx,by simp⟩,by omega⟩⟩
 ·refine (same k (fun e=>?_) (by omega) (by omega)).trans hk
  subst e;rw [hoj] at hk;cases hk;rw [hcj] at hc;cases hc
 ·refine same k (fun e=>?_) ?_ ?_
  ·subst e
   rcases hk with rfl|hk
   ·rcases hpjs with h1 | h1;(have:=hG _ h1;omega);omega
   ·rcases hpjs with h1 | h1;exact hk.2 h1;omega
  ·rcases hk with rfl | hk <;> omega
  ·rcases hk with rfl | hk <;> omega
 ·exact (same _ (fun e=>by rcases hpjs with h1 | h1;(have:=hG _ h1;omega);omega) (by omega) (by omega)).trans h.c0
 ·exact (same _ (fun e=>by rcases hpjs with h1 | h1;(have:=hG _ h1;omega);omega) (by omega) (by omega)).trans h.c1
 ·rw [setCell_block (by simp),setCell_block (Ne.symm n2)]
  exact one_setJ h.c2
 ·have e:endOf [x]=x.1.stop:=by simp [endOf]
  rw [e]
  refine one_setJ (u:=.int .i64 (endOf ([]:List (FrOf b)):Nat)) ?_
  rw [setCell_block (Ne.symm n3),setCell_block (by simp)]
  exact h.c3
 ·exact (same _ (fun e=>by rcases hpjs with h1 | h1;(have:=hG _ h1;omega);omega) (by omega) (by omega)).trans h.c4
 ·exact ((h.kept.setCell (p:=⟨w.heap.size+2,0,none⟩) (.inr (by simp)) _).setCell (p:=⟨pj,1,none⟩) (by rcases hpjs with h2 | h2;exact .inl h2;right;simp;omega) _).setCell (p:=⟨w.heap.size+3,0,none⟩) (.inr (by simp)) _
def BadAt {b:List UInt8} (pre:List (FrOf b)) (x:FrOf b):Prop:=(pre=[]∧x.1.pay.length≠4)∨(pre≠[]∧x.1.gen≠genOf pre)
theorem baseOf_bad {b:List UInt8} {pre:List (FrOf b)} {x:FrOf b} (h:BadAt pre x) (hp:pre ++ [x] <+: frs b):baseOf b=none:=by
 obtain ⟨r,hr⟩:=hp
 unfold baseOf
 rw [←hr]
 rcases h with ⟨rfl,h⟩|⟨h1,h2⟩
 ·simp only [List.nil_append,List.singleton_append]
  rw [if_neg (fun h3=>h h3.1)]
 ·cases pre with
  | nil=>exact absurd rfl h1
  | cons y pre =>
   simp only [List.cons_append]
   rw [if_neg (fun h3=>h2 (h3.2.1 x (by simp)))]
def RBX (w:World) (G:Nat→Prop) {b:List UInt8} (cd:Code) (xs:List (FrOf b)) (W:World):Prop :=
 cd=.ret∧∃ pre x,xs=pre ++ [x]∧BadAt pre x∧W.heap[w.heap.size+1]? = some (.cells #[.bool false] 4 (0,0))∧Kept G w W∧w.heap.size+5≤W.heap.size
def AxB (w:World) {b:List UInt8} (A:Option Addr) (c:Nat) (T:FrOf b→Nat→Array Value) (x:FrOf b) (a':Act) (W:World):Prop :=
 ∃ bx,w.heap.size+5≤bx∧a'={ tmps:=T x bx,defers:=[] }∧W.heap[bx]? = some (.cells #[.int .u32 (x.1.gen:Nat),sliced A (x.1.start+12) x.1.stop c 1,.int .i64 (x.1.stop:Nat)] 147 (0,0))
set_option maxRecDepth 100000 in
set_option maxHeartbeats 4000000 in
theorem readBase_any (w:World) (pj p:Nat) (lv:Value) (us:List Value) (log:List (List UInt8)) (G:Nat→Prop) (h:JV w pj p 0 (.slice none 0 0) lv [] us [] log G) (A:Option Addr) (c:Nat) (b:List UInt8)
  (hb:SegS (fun x=>x < w.heap.size∧¬ G x) w (.slice A b.length c) (byteCells b)) (hl:b.length≤2000000) :
  Calls Tryz.prog 43 #[.pointer (some ⟨pj,0,none⟩),.slice A b.length c] w fun e w'=>e=.returned (.bool (baseOf b).isSome)∧Kept G w w'∧∀ g ps,baseOf b=some (g,ps)→∃ bv bs G',JV w' pj p g bv lv bs us ps log G'∧Grows w G G':=by
 have hG:=h.lt
 obtain ⟨W0,hW0⟩:∃ W0,W0=((((w.alloc (.cells #[.pointer (some ⟨pj,0,none⟩)] 27)).alloc (.cells #[.bool false] 4)).alloc (.cells #[.slice none 0 0] 24)).alloc (.cells #[.int .i64 0] 3)).alloc (.cells #[.slice A b.length c] 24):=⟨_,rfl⟩
 have hs0:W0.heap.size=w.heap.size+5:=by rw [hW0];simp
 have hb0:Below w.heap.size w W0:=by rw [hW0];exact ((((box_below w _).alloc (by simp) _).alloc (by simp;omega) _).alloc (by simp;omega) _).alloc (by simp;omega) _
 have k0:W0.heap[w.heap.size]? = some (.cells #[.pointer (some ⟨pj,0,none⟩)] 27 (0,0)):=by
  rw [hW0,Below.heap_alloc _ _ _ (by simp <;> omega),Below.heap_alloc _ _ _ (by simp <;> omega),Below.heap_alloc _ _ _ (by simp <;> omega),Below.heap_alloc _ _ _ (by simp)];exact heap_alloc_new w _
 have k1:W0.heap[w.heap.size+1]? = some (.cells #[.bool false] 4 (0,0)):=by
  rw [hW0,Below.heap_alloc _ _ _ (by simp <;> omega),Below.heap_alloc _ _ _ (by simp <;> omega),Below.heap_alloc _ _ _ (by simp)]
  have:=heap_alloc_new (w.alloc (.cells #[.pointer (some ⟨pj,0,none⟩)] 27)) (.cells #[.bool false] 4)
  simpa using this
 have k2:W0.heap[w.heap.size+2]? = some (.cells #[.slice none 0 0] 24 (0,0)):=by
  rw [hW0,Below.heap_alloc _ _ _ (by simp <;> omega),Below.heap_alloc _ _ _ (by simp)]
  have:=heap_alloc_new ((w.alloc (.cells #[.pointer (some ⟨pj,0,none⟩)] 27)).alloc (.cells #[.bool false] 4)) (.cells #[.slice none 0 0] 24)
  simpa using this
 have k3:W0.heap[w.heap.size+3]? = some (.cells #[.int .i64 0] 3 (0,0)):=by
  rw [hW0,Below.heap_alloc _ _ _ (by simp)]
  have:=heap_alloc_new (((w.alloc (.cells #[.pointer (some ⟨pj,0,none⟩)] 27)).alloc (.cells #[.bool false] 4)).alloc (.cells #[.slice none 0 0] 24)) (.cells #[.int .i64 0] 3)
  simpa using this
 have k4:W0.heap[w.heap.size+4]? = some (.cells #[.slice A b.length c] 24 (0,0)):=by
  rw [hW0]
  have:=heap_alloc_new ((((w.alloc (.cells #[.pointer (some ⟨pj,0,none⟩)] 27)).alloc (.cells #[.bool false] 4)).alloc (.cells #[.slice none 0 0] 24)).alloc (.cells #[.int .i64 0] 3)) (.cells #[.slice A b.length c] 24)
  simpa using this
 have hseg0:SegS (BK w G) W0 (.slice A b.length c) (byteCells b):=hb.keep fun x hx=>⟨.inr hx,hb0.block x hx.1⟩
 have hRK:∀ k,BK w G k→k < W0.heap.size:=fun k hk=>by rcases hk with rfl | hk <;> omega
 have HSEQ:=Lib.hid (frames_stops W0 A c b (BK w G) hseg0 (w.heap.size+4) (.inl rfl) hRK k4 hl)
 have HI0:Hid (RBI w pj p lv us log G A c b [] W0):=Lib.hid ⟨k0,k1,k2,k3,k4,⟨.slice none 0 0,[],G,h.go hb0,fun k hk=>.inl hk⟩,Kept.of_below hb0,trivial,by omega⟩
 have HBS:=Lib.hid hb;have HRK:=Lib.hid hRK;have HG:=Lib.hid hG
 clear k0 k1 k2 k3 k4 hseg0 hRK h hb hG
 refine (callsIn_wide (n:=7)).1 ?_
 refine callsIn_of_wp_marks Tryz.func43 rfl trivial ?_ rfl
 simp only [Tryz.ntmps43,List.size_toArray,List.length_cons,List.length_nil,Nat.reduceAdd,Nat.reduceSub,Array.replicate_succ,Array.replicate_zero,List.push_toArray,List.append_toArray,List.nil_append,List.cons_append]
 gi_wp2_with (refine ⟨trivial,?_⟩;gi_at_call 82;refine (callsIn_wide.2 (frames_any _ _ _ _)).mono ?_;rintro e w1 ⟨rfl,rfl⟩)
 rw [←hW0]
 clear hW0
 refine wpIn_rangeFunc_ownH (F:=Fence.wide) rfl (by omega) (gf:=123) (lb:=#[.pointer (some ⟨w.heap.size+1+1+1+1,0,none⟩)]) rfl trivial (enters_of Tryz.func123 (by kernel_rfl) rfl)
  HSEQ.out (fun h k=>h.t k) ?hKb (Below.refl _ _) (fun _=>rfl)
  (fun pre W=>RBI w pj p lv us log G A c b pre W)
  (RBX w G) ?hI ?hIx HI0.out
  (AxB w A c (fun (x:FrOf b) bx=>#[.pointer (some ⟨pj,0,none⟩),.slice A b.length c,.pointer (some ⟨w.heap.size,0,none⟩),undef,.pointer (some ⟨w.heap.size+1,0,none⟩),.pointer (some ⟨w.heap.size+1+1,0,none⟩),.pointer (some ⟨w.heap.size+1+1+1,0,none⟩),.pointer (some ⟨bx,0,none⟩),.slice A b.length c,.func (.func 123) #[] #[.pointer (some ⟨w.heap.size+1+1+1+1,0,none⟩)],.agg #[.int .u32 (x.1.gen:Nat),sliced A (x.1.start+12) x.1.stop c 1,.int .i64 (x.1.stop:Nat)],undef,undef,undef,undef,undef,undef,undef,undef,undef,undef,undef,undef,undef,undef,undef,undef,undef,undef,undef,undef,undef,undef,undef,undef,undef,undef,undef,undef,undef,undef,undef,undef,undef,undef,undef,undef,undef,undef,undef,undef,undef,undef,undef,undef,undef,undef,undef,undef,undef,undef,undef,undef,undef])) ?hAx ?assign ?body ?done ?stop
 case hKb =>
  intro W l o o' hl hget hcl hwl
  exact ⟨by simp,fun k hk=>World.putObj_heap_other (by have:=HRK.out k hk;omega)⟩
 case hI =>
  intro pre X Y row hs hg hr
  exact hs.walk HG.out hg (fun r e=>⟨by have:=(hr r e).1;omega,(hr r e).2⟩)
 case hIx =>
  rintro cd xs X Y row ⟨h1,pre,x,h2,h3,h4,h5,h6⟩ hg hr
  exact ⟨h1,pre,x,h2,h3,(hg.block _ (by omega) (fun e=>by have:=(hr _ e.symm).1;omega)).trans h4,h5.grown hg (fun k e=>.inr (by have:=(hr k e).1;omega)),by have:=hg.size;omega⟩
 case hAx =>
  rintro x a' _ X Y row ⟨bx,h1,h2,h3⟩ hg hr
  refine ⟨bx,h1,h2,(hg.block bx (lt_of_block h3) (fun e=>?_)).trans h3⟩
  obtain ⟨o,ho,hc⟩:=(hr bx e.symm).2
  rw [h3] at ho
  cases ho
  cases hc
 case assign =>
  intro l pre x W K hIW hK
  obtain ⟨A5,c5,e5⟩:=sliced_form A (x.1.start+12) x.1.stop c
  have hfin:=hK { tmps:=#[.pointer (some ⟨pj,0,none⟩),.slice A b.length c,.pointer (some ⟨w.heap.size,0,none⟩),undef,.pointer (some ⟨w.heap.size+1,0,none⟩),.pointer (some ⟨w.heap.size+1+1,0,none⟩),.pointer (some ⟨w.heap.size+1+1+1,0,none⟩),.pointer (some ⟨W.heap.size,0,none⟩),.slice A b.length c,.func (.func 123) #[] #[.pointer (some ⟨w.heap.size+1+1+1+1,0,none⟩)],.agg #[.int .u32 (x.1.gen:Nat),.slice A5 (x.1.stop - (x.1.start+12)) c5,.int .i64 (x.1.stop:Nat)],undef,undef,undef,undef,undef,undef,undef,undef,undef,undef,undef,undef,undef,undef,undef,undef,undef,undef,undef,undef,undef,undef,undef,undef,undef,undef,undef,undef,undef,undef,undef,undef,undef,undef,undef,undef,undef,undef,undef,undef,undef,undef,undef,undef,undef,undef,undef,undef,undef,undef,undef,undef,undef],defers:=[] } (W.alloc (.cells #[.int .u32 (x.1.gen:Nat),.slice A5 (x.1.stop - (x.1.start+12)) c5,.int .i64 (x.1.stop:Nat)] 147)) ⟨by simp,fun k o _ hk _=>(Below.heap_alloc _ _ _ (lt_of_block hk)).trans hk⟩ (KpS.below (box_below W _) (fun k hk=>by have:=HRK.out k hk;have:=hIW.size;omega)) (hIW.go (box_below W _)) ⟨W.heap.size,hIW.size,by dsimp only;rw [e5],by rw [e5];exact heap_alloc_new W _⟩
  have HF:=Lib.hid hfin
  clear hK hfin
  dsimp only [encFr]
  rw [e5]
  clear e5
  gi_wp2
  exact HF.out
 case body =>
  rintro l pre x a' W hl0 hloop hIW ⟨bx,hbx,rfl,hxb⟩ hlen
  obtain ⟨hx1,hx2,hx3,hx4,hx5,hx6⟩:=frAt_some x.2
  have hzW:=hIW.size
  have hsb:Seg W W.heap.size (.slice A b.length c) (byteCells b):=(HBS.out.keep (S':=fun k=>k < w.heap.size) fun k hk=>⟨hk.1,hIW.kept.block k hk.1 hk.2⟩).seg fun k hk=>by omega
  obtain ⟨-,A5,c5,e5,s5⟩:=seg_mid hsb (x.1.start+12) x.1.stop (by omega) (by omega)
  rw [show x.1.stop - (x.1.start+12)=x.1.pay.length by omega] at e5 s5
  rw [←hx4] at s5
  have HCV:Hid (cntV A c [x]=.slice A5 x.1.pay.length c5):=Lib.hid e5
  rw [e5] at hxb
  dsimp only
  rw [e5]
  obtain ⟨x0,xx1,xx2⟩:=three_cellsJ hxb
  obtain ⟨p0,-⟩:=one_cellJ hIW.c0
  obtain ⟨r1,r1f⟩:=one_cellJ hIW.c1
  obtain ⟨r2,r2f⟩:=one_cellJ (b:=w.heap.size+1+1) hIW.c2
  obtain ⟨r3,r3f⟩:=one_cellJ (b:=w.heap.size+1+1+1) hIW.c3
  obtain ⟨bv1,bs1,G1,hjv,hG1⟩:=hIW.jv
  obtain ⟨⟨j0,j1,j2,j3⟩,jf1,jf2,jf3⟩:=hjv.cells
  have HS5:=Lib.hid s5;have HJV:=Lib.hid hjv;have HI:=Lib.hid hIW;have HXB:=Lib.hid hxb;have HX2:=Lib.hid hx2
  clear hsb e5 s5 hjv hxb hx1 hx2 hx4 hIW
  have hpjs:G pj∨w.heap.size+5≤pj:=hG1 pj HJV.out.gpj
  have m0:¬ pj=w.heap.size:=by rcases hpjs with h1 | h1;(have:=HG.out pj h1;omega);omega
  have m1:¬ pj=w.heap.size+1:=by rcases hpjs with h1 | h1;(have:=HG.out pj h1;omega);omega
  have m2:¬ pj=w.heap.size+1+1:=by rcases hpjs with h1 | h1;(have:=HG.out pj h1;omega);omega
  have m3:¬ pj=w.heap.size+1+1+1:=by rcases hpjs with h1 | h1;(have:=HG.out pj h1;omega);omega
  have m0':¬ w.heap.size=pj:=fun e=>m0 e.symm
  have m1':¬ w.heap.size+1=pj:=fun e=>m1 e.symm
  have m2':¬ w.heap.size+1+1=pj:=fun e=>m2 e.symm
  have m3':¬ w.heap.size+1+1+1=pj:=fun e=>m3 e.symm
  have x2:¬ bx=w.heap.size+1+1:=by omega
  have x3:¬ bx=w.heap.size+1+1+1:=by omega
  have x2':¬ w.heap.size+1+1=bx:=by omega
  have x3':¬ w.heap.size+1+1+1=bx:=by omega
  have x1':¬ w.heap.size+1=bx:=by omega
  have xp:¬ bx=pj:=fun e=>by
   have h1:=HXB.out
   have h2:=HJV.out.head
   rw [e,h2] at h1
   injection h1 with h1
   injection h1 with h1 h3 h4
   exact absurd h3 (by decide)
  have xp':¬ pj=bx:=fun e=>xp e.symm
  have HS0':=Lib.hid hs0
  have RET:Hid (∀ (V:World),Below W.heap.size W V→BadAt pre x→KeepsFrom W0.heap.size W (V.setCell ⟨w.heap.size+1,0,none⟩ (.bool false))∧RBX w G .ret (pre ++ [x]) (V.setCell ⟨w.heap.size+1,0,none⟩ (.bool false))):=Lib.hid fun V hV hbad=>by
   have hzV:=hV.size
   refine ⟨⟨by simp [World.setCell];omega,fun k o hB hk _=>?_⟩,rfl,pre,x,rfl,hbad,one_setJ ((hV.block _ (by omega)).trans HI.out.c1),(HI.out.kept.trans' (Kept.of_below hV)).setCell (p:=⟨w.heap.size+1,0,none⟩) (.inr (by simp)) _,by simp [World.setCell];omega⟩
   rw [setCell_block (by simp;omega)]
   exact (hV.block k (lt_of_block hk)).trans hk
  by_cases hnil:pre=[]
  ·subst hnil
   have r3':W.cell? ⟨w.heap.size+1+1+1,0,none⟩=some (.int .i64 0):=r3
   clear r3
   by_cases h4:x.1.pay.length=4
   ·have hq:((x.1.pay.length:Int) != 4)=false:=by simp [h4]
    have HNX:=Lib.hid (HI.out.first HG.out x h4 hx5)
    rw [HCV.out,←HS0'.out] at HNX
    clear h4
    gi_wp2
    exact HNX.out
   ·have hq:((x.1.pay.length:Int) != 4)=true:=by simp;omega
    have HRT:=Lib.hid (RET.out W (Below.refl _ _) (.inl ⟨rfl,h4⟩))
    clear h4
    gi_wp2
    exact HRT.out
  ·have HNE:=Lib.hid hnil
   have hE:=endOf_pos hnil
   have hq0:((endOf pre:Int) == 0)=false:=by simp;omega
   clear hnil
   by_cases hg:x.1.gen=genOf pre
   ·have hne:((x.1.gen:Int) != (genOf pre:Int))=false:=by simp [hg]
    clear r1 r1f r2 r2f r3f
    gi_wp2
    refine wpIn_round_quiet (by kernel_rfl) (by kernel_rfl) (by kernel_rfl) ?_
    repeat (any_goals (first | go_big_quiet_step (fail) | quiet_step (fail)))
    all_goals (refine wpQuiet_nil ?_;intro _ hw';obtain ⟨nq,hw''⟩:=hw';subst hw'')
    clear r3 hq0 hE
    gi_wp2
    obtain ⟨X,hX⟩:∃ X,X=W.drewN nq:=⟨_,rfl⟩
    have bWX:Below W.heap.size W X:=by rw [hX];exact below_drewN (Below.refl _ W) nq
    rw [←hX]
    have HBX:=Lib.hid bWX
    have p0X:X.cell? ⟨w.heap.size,0,none⟩=some (.pointer (some ⟨pj,0,none⟩)):=by rw [hX];exact p0
    have xxX:X.cell? ⟨bx,1,none⟩=some (.slice A5 x.1.pay.length c5):=by rw [hX];exact xx1
    have j2X:X.cell? ⟨pj,2,none⟩=some bv1:=by rw [hX];exact j2
    have HS0:Hid (X.drew.cell? ⟨w.heap.size,0,none⟩=some (.pointer (some ⟨pj,0,none⟩))∧X.drew.cell? ⟨bx,1,none⟩=some (.slice A5 x.1.pay.length c5)):=Lib.hid ⟨p0X,xxX⟩
    have HCL:Hid (Calls Tryz.prog 48 #[.slice A5 x.1.pay.length c5] X.drew fun e w2=>∃ A2 c2,e=.returned (.slice A2 x.1.pay.length c2)∧Hid (Par.Own w2 X.heap.size 5 (.slice A2 x.1.pay.length c2) (byteCells x.1.pay))∧Hid (Below X.heap.size X w2)∧(w2.cell? ⟨w.heap.size,0,none⟩=some (.pointer (some ⟨pj,0,none⟩))∧w2.cell? ⟨bx,1,none⟩=some (.slice A5 x.1.pay.length c5))∧w2.cell? ⟨pj,2,none⟩=some bv1):=Lib.hid (by
     refine (clone_seg _ x.1.pay X.drew ((HS5.out.below bWX).more bWX.size) (by omega)).mono ?_
     rintro e w2 ⟨u2,rfl,hu2,hb2⟩
     obtain ⟨A2,c2,hf2⟩:=hu2.form
     rw [byteCells_length] at hf2
     subst hf2
     have hb3:Below X.heap.size X w2:=((Below.refl _ X).drew).trans hb2
     exact ⟨A2,c2,rfl,Lib.hid hu2,Lib.hid hb3,⟨(hb3.cell (p:=⟨w.heap.size,0,none⟩) (World.block_lt_of_cell? _ _ p0X)).trans p0X,(hb3.cell (p:=⟨bx,1,none⟩) (World.block_lt_of_cell? _ _ xxX)).trans xxX⟩,(hb3.cell (p:=⟨pj,2,none⟩) (World.block_lt_of_cell? _ _ j2X)).trans j2X⟩)
    obtain ⟨NL,hNL⟩:∃ NL,NL=(pays (pre.drop 1)).length:=⟨_,rfl⟩
    have HLEN:Hid (bs1.length=NL):=Lib.hid (by rw [hNL];have:=HJV.out.bown.1;simpa using this)
    have HFL:Hid (NL≤3000000):=Lib.hid (by rw [hNL];have:=frs_length b;simp [pays];omega)
    have HNL:=Lib.hid hNL
    have HN0:Hid (bv1.ownBlock≠some w.heap.size):=Lib.hid fun e=>by rcases hG1 _ (HJV.out.gb _ e).1 with h2 | h2;(have:=HG.out _ h2;omega);omega
    have HN2:Hid (bv1.ownBlock≠some (w.heap.size+3)):=Lib.hid fun e=>by rcases hG1 _ (HJV.out.gb _ e).1 with h2 | h2;(have:=HG.out _ h2;omega);omega
    have HN1:Hid (bv1.ownBlock≠some bx):=Lib.hid (row_not HJV.out.bown HXB.out (by decide))
    have HN3:Hid (bv1.ownBlock≠some pj):=Lib.hid fun e=>(HJV.out.gb _ e).2 rfl
    have HNB:Hid (bx≠pj):=Lib.hid fun e=>by
     have h1:=HXB.out
     have h2:=HJV.out.head
     rw [e,h2] at h1
     injection h1 with h1
     injection h1 with h1 h3 h4
     exact absurd h3 (by decide)
    have HNA:Hid (w.heap.size≠pj):=Lib.hid fun e=>by rcases hG1 _ HJV.out.gpj with h2 | h2;(have:=HG.out _ h2;omega);omega
    have HNC:Hid (w.heap.size+3≠pj):=Lib.hid fun e=>by rcases hG1 _ HJV.out.gpj with h2 | h2;(have:=HG.out _ h2;omega);omega
    have HS0':=Lib.hid hs0
    obtain ⟨A1,c1,hlvf⟩:=Own.formR HJV.out.bown
    rw [←hNL] at hlvf
    have HGX:=Lib.hid hg
    clear hNL hg
    subst hlvf
    clear hX bWX hne p0 x0 xx1 xx2 j0 j1 j2 j3 jf1 jf2 jf3
    refine wpIn_round_held (S:=fun w'=>w'.cell? ⟨w.heap.size,0,none⟩=some (.pointer (some ⟨pj,0,none⟩))∧w'.cell? ⟨bx,1,none⟩=some (.slice A5 x.1.pay.length c5)) (by kernel_rfl) (by kernel_rfl) (by rintro ⟨_,_,h⟩;exact h) ?_
    refine wpAnyH_take (i:=0) (v:=.pointer (some ⟨pj,0,none⟩)) rfl (by kernel_rfl) (by kernel_rfl) (by kernel_rfl) (fun _ _ _ h=>h) (Or.inl ⟨by rfl,fun w' hS=>by obtain ⟨s0,s1⟩:=hS;go_simp⟩) HS0.out ?_
    refine wpAnyH_take (i:=1) (v:=.pointer (some ⟨pj,0,none⟩)) rfl (by kernel_rfl) (by kernel_rfl) (by kernel_rfl) (fun _ _ _ h=>h) (Or.inl ⟨by rfl,fun w' hS=>by obtain ⟨s0,s1⟩:=hS;go_simp⟩) HS0.out ?_
    refine wpAnyH_take (i:=2) (v:=.pointer (some ⟨pj,0,none⟩)) rfl (by kernel_rfl) (by kernel_rfl) (by kernel_rfl) (fun _ _ _ h=>h) (Or.inl ⟨by rfl,fun w' hS=>by obtain ⟨s0,s1⟩:=hS;go_simp⟩) HS0.out ?_
    refine wpAnyH_take (i:=3) (v:=.pointer (some ⟨pj,2,none⟩)) rfl (by kernel_rfl) (by kernel_rfl) (by kernel_rfl) (fun _ _ _ h=>h) (Or.inl ⟨by rfl,fun w' hS=>by obtain ⟨s0,s1⟩:=hS;go_simp⟩) HS0.out ?_
    refine wpAnyH_take (i:=5) (v:=.pointer (some ⟨bx,1,none⟩)) rfl (by kernel_rfl) (by kernel_rfl) (by kernel_rfl) (fun _ _ _ h=>h) (Or.inl ⟨by rfl,fun w' hS=>by obtain ⟨s0,s1⟩:=hS;go_simp⟩) HS0.out ?_
    refine wpAnyH_take (i:=6) (v:=.slice A5 x.1.pay.length c5) rfl (by kernel_rfl) (by kernel_rfl) (by kernel_rfl) (fun _ _ _ h=>h) (Or.inl ⟨by rfl,fun w' hS=>by obtain ⟨s0,s1⟩:=hS;go_simp⟩) HS0.out ?_
    refine wpAnyH_all (rs:=[4,7]) (by kernel_rfl) (by simp) ?_
    intro i hi
    simp only [List.mem_cons,List.not_mem_nil,or_false] at hi
    rcases hi with rfl|rfl
    ·refine wpOp_of rfl rfl (fun K hK=>?_)
     go_simp
     refine hK _ _ ⟨HS0.out,?_⟩
     clear hK K
     refine wpAnyH_all (rs:=[7]) (by kernel_rfl) (by simp) ?_
     intro i hi
     simp only [List.mem_cons,List.not_mem_nil,or_false] at hi
     subst hi
     refine wpOp_of rfl rfl (fun K hK=>?_)
     go_simp
     refine HCL.out.mono ?_
     rintro e w2 ⟨A2,c2,rfl,HU2,HB2,⟨q0,q1⟩,q3⟩
     refine hK _ _ ⟨⟨q0,q1⟩,?_⟩
     clear hK K
     have q0':=Lib.cell?_alloc_some (.cells #[.slice A2 x.1.pay.length c2] 24) q0
     have q1':=Lib.cell?_alloc_some (.cells #[.slice A2 x.1.pay.length c2] 24) q1
     have q3':=Lib.cell?_alloc_some (.cells #[.slice A2 x.1.pay.length c2] 24) q3
     have B4:Hid (Below W.heap.size W (w2.alloc (.cells #[.slice A2 x.1.pay.length c2] 24))):=Lib.hid ((HBX.out.trans (HB2.out.mono HBX.out.size)).alloc (by have:=HBX.out.size;have:=HB2.out.size;omega) _)
     have hown4:Par.Own (w2.alloc (.cells #[.slice A2 x.1.pay.length c2] 24)) 0 24 (.slice A1 NL c1) bs1:=by
      have:=(HJV.out.go B4.out).bown
      rw [←HNL.out] at this
      unfold Par.Own
      rw [HLEN.out]
      exact this
     have HO4:=Lib.hid hown4
     clear hown4
     refine wpAnyH_all (rs:=[8]) (by kernel_rfl) (by simp) ?_
     intro i hi
     simp only [List.mem_cons,List.not_mem_nil,or_false] at hi
     subst hi
     refine wpOp_of rfl rfl (fun K hK=>?_)
     go_simp
     refine hK _ _ ⟨⟨q0',q1'⟩,?_⟩
     clear hK K
     refine wpAnyH_all (rs:=[9]) (by kernel_rfl) (by simp) ?_
     intro i hi
     simp only [List.mem_cons,List.not_mem_nil,or_false] at hi
     subst hi
     refine wpOp_of rfl rfl (fun K hK=>?_)
     refine wp_app _ (.tmp 35) (.tmp 39) 22 rfl 0 24 _ rowE (.slice A1 NL c1) bs1 rfl HO4.out _ _ [.slice A2 x.1.pay.length c2] rfl (Seg.new w2 24 #[.slice A2 x.1.pay.length c2] [.slice A2 x.1.pay.length c2] rfl (by simp [maxLen])) (fun y hy=>by simp at hy;subst hy;rfl) (by have:=HLEN.out;have:=HFL.out;simp only [List.length_cons,List.length_nil];omega) (Nat.zero_le _) (fun v3 w5 h2 h3 h4=>?_)
     have g0:=grown_cell h3 q0' (fun e=>HN0.out e)
     have g1:=grown_cell h3 q1' (fun e=>HN1.out e)
     have g3:=grown_cell h3 q3' (fun e=>HN3.out e)
     have HS5':Hid (w5.cell? ⟨w.heap.size,0,none⟩=some (.pointer (some ⟨pj,0,none⟩))∧w5.cell? ⟨bx,1,none⟩=some (.slice A5 x.1.pay.length c5)):=Lib.hid ⟨g0,g1⟩
     refine hK _ _ ⟨HS5'.out,?_⟩
     clear hK K
     obtain ⟨A3,c3,hf3⟩:=h2.form
     have hr3:w5.ownsRow 0 24 1 v3 (bs1.length+1) (bs1 ++ [.slice A2 x.1.pay.length c2]):=by have:=h2;unfold Par.Own at this;rw [List.length_append] at this;exact this
     have HNX:=Lib.hid (HI.out.next HG.out HJV.out HNE.out hG1 HBX.out HB2.out x HGX.out HU2.out _ hr3 h3 (by simpa using h4))
     have hh3:=h3.block pj (by have:=HJV.out.lt pj HJV.out.gpj;have:=B4.out.size;omega) (fun e=>HN3.out e.symm)
     have hj5:w5.heap[pj]? = some (.cells #[.pointer (some ⟨p,0,none⟩),.int .u32 (genOf pre:Nat),.slice A1 NL c1,lv] 95 (0,0)):=hh3.trans ((B4.out.block pj (HJV.out.lt pj HJV.out.gpj)).trans HJV.out.head)
     obtain ⟨-,-,jf3,-⟩:=four_cells hj5
     have hxb5:w5.heap[bx]? = some (.cells #[.int .u32 (x.1.gen:Nat),.slice A5 x.1.pay.length c5,.int .i64 (x.1.stop:Nat)] 147 (0,0)):=(h3.block bx (by have:=lt_of_block HXB.out;have:=B4.out.size;omega) (fun e=>HN1.out e.symm)).trans ((B4.out.block bx (lt_of_block HXB.out)).trans HXB.out)
     have hc15:w5.heap[w.heap.size+3]? = some (.cells #[.int .i64 (endOf pre:Nat)] 3 (0,0)):=(h3.block _ (by have:=HI.out.size;have:=B4.out.size;omega) (fun e=>HN2.out e.symm)).trans ((B4.out.block _ (by have:=HI.out.size;omega)).trans HI.out.c3)
     have HXF:=Lib.hid ((setCell_block (a:=⟨pj,2,none⟩) (x:=v3) HNB.out).trans hxb5)
     have HCF:=Lib.hid ((setCell_block (a:=⟨pj,2,none⟩) (x:=v3) HNC.out).trans hc15)
     clear h2 h3 h4 hr3 hh3 hj5 hxb5 hc15 HO4 HU2 q0 q1 q3 q0' q1' q3'
     have hf3':v3=.slice A3 (bs1.length+1) c3:=by rw [hf3,List.length_append];rfl
     clear hf3
     subst hf3'
     refine wpAnyH_take (i:=10) (v:=.pointer (some ⟨pj,0,none⟩)) rfl (by kernel_rfl) (by kernel_rfl) (by kernel_rfl) (fun _ _ _ h=>h) (Or.inl ⟨by rfl,fun w' hS=>by obtain ⟨s0,s1⟩:=hS;go_simp⟩) HS5'.out ?_
     refine wpAnyH_take (i:=11) (v:=.pointer (some ⟨pj,2,none⟩)) rfl (by kernel_rfl) (by kernel_rfl) (by kernel_rfl) (fun _ _ _ h=>h) (Or.inl ⟨by rfl,fun w' hS=>by obtain ⟨s0,s1⟩:=hS;go_simp⟩) HS5'.out ?_
     refine wpAnyH_all (rs:=[12]) (by kernel_rfl) (by simp) ?_
     intro i hi
     simp only [List.mem_cons,List.not_mem_nil,or_false] at hi
     subst hi
     refine wpOp_of rfl rfl (fun K hK=>?_)
     go_simp
     refine hK _ _ ⟨⟨(World.cell?_setCell_other _ _ _ _ (fun e=>HNA.out (by injection e with e1;exact e1.symm))).trans HS5'.out.1,(World.cell?_setCell_other _ _ _ _ (fun e=>HNB.out (by injection e with e1;exact e1.symm))).trans HS5'.out.2⟩,?_⟩
     clear hK K
     refine wpAnyH_done (by kernel_rfl) ?_ _
     obtain ⟨-,-,f2⟩:=three_cellsJ HXF.out
     obtain ⟨f5,f6⟩:=one_cellJ (b:=w.heap.size+1+1+1) HCF.out
     clear g0 g1 g3 jf3
     gi_wp2
     have:=HNX.out
     rw [←HS0'.out] at this
     exact this
    ·refine wpOp_of rfl rfl (fun K hK=>?_)
     go_simp
     refine HCL.out.mono ?_
     rintro e w2 ⟨A2,c2,rfl,HU2,HB2,⟨q0,q1⟩,q3⟩
     refine hK _ _ ⟨⟨q0,q1⟩,?_⟩
     clear hK K
     have q0':=Lib.cell?_alloc_some (.cells #[.slice A2 x.1.pay.length c2] 24) q0
     have q1':=Lib.cell?_alloc_some (.cells #[.slice A2 x.1.pay.length c2] 24) q1
     have q3':=Lib.cell?_alloc_some (.cells #[.slice A2 x.1.pay.length c2] 24) q3
     have B4:Hid (Below W.heap.size W (w2.alloc (.cells #[.slice A2 x.1.pay.length c2] 24))):=Lib.hid ((HBX.out.trans (HB2.out.mono HBX.out.size)).alloc (by have:=HBX.out.size;have:=HB2.out.size;omega) _)
     have hown4:Par.Own (w2.alloc (.cells #[.slice A2 x.1.pay.length c2] 24)) 0 24 (.slice A1 NL c1) bs1:=by
      have:=(HJV.out.go B4.out).bown
      rw [←HNL.out] at this
      unfold Par.Own
      rw [HLEN.out]
      exact this
     have HO4:=Lib.hid hown4
     clear hown4
     refine wpAnyH_all (rs:=[4,8]) (by kernel_rfl) (by simp) ?_
     intro i hi
     simp only [List.mem_cons,List.not_mem_nil,or_false] at hi
     rcases hi with rfl|rfl
     ·refine wpOp_of rfl rfl (fun K hK=>?_)
      go_simp
      refine hK _ _ ⟨⟨q0,q1⟩,?_⟩
      clear hK K
      refine wpAnyH_all (rs:=[8]) (by kernel_rfl) (by simp) ?_
      intro i hi
      simp only [List.mem_cons,List.not_mem_nil,or_false] at hi
      subst hi
      refine wpOp_of rfl rfl (fun K hK=>?_)
      go_simp
      refine hK _ _ ⟨⟨q0',q1'⟩,?_⟩
      clear hK K
      refine wpAnyH_all (rs:=[9]) (by kernel_rfl) (by simp) ?_
      intro i hi
      simp only [List.mem_cons,List.not_mem_nil,or_false] at hi
      subst hi
      refine wpOp_of rfl rfl (fun K hK=>?_)
      refine wp_app _ (.tmp 35) (.tmp 39) 22 rfl 0 24 _ rowE (.slice A1 NL c1) bs1 rfl HO4.out _ _ [.slice A2 x.1.pay.length c2] rfl (Seg.new w2 24 #[.slice A2 x.1.pay.length c2] [.slice A2 x.1.pay.length c2] rfl (by simp [maxLen])) (fun y hy=>by simp at hy;subst hy;rfl) (by have:=HLEN.out;have:=HFL.out;simp only [List.length_cons,List.length_nil];omega) (Nat.zero_le _) (fun v3 w5 h2 h3 h4=>?_)
      have g0:=grown_cell h3 q0' (fun e=>HN0.out e)
      have g1:=grown_cell h3 q1' (fun e=>HN1.out e)
      have g3:=grown_cell h3 q3' (fun e=>HN3.out e)
      have HS5':Hid (w5.cell? ⟨w.heap.size,0,none⟩=some (.pointer (some ⟨pj,0,none⟩))∧w5.cell? ⟨bx,1,none⟩=some (.slice A5 x.1.pay.length c5)):=Lib.hid ⟨g0,g1⟩
      refine hK _ _ ⟨HS5'.out,?_⟩
      clear hK K
      obtain ⟨A3,c3,hf3⟩:=h2.form
      have hr3:w5.ownsRow 0 24 1 v3 (bs1.length+1) (bs1 ++ [.slice A2 x.1.pay.length c2]):=by have:=h2;unfold Par.Own at this;rw [List.length_append] at this;exact this
      have HNX:=Lib.hid (HI.out.next HG.out HJV.out HNE.out hG1 HBX.out HB2.out x HGX.out HU2.out _ hr3 h3 (by simpa using h4))
      have hh3:=h3.block pj (by have:=HJV.out.lt pj HJV.out.gpj;have:=B4.out.size;omega) (fun e=>HN3.out e.symm)
      have hj5:w5.heap[pj]? = some (.cells #[.pointer (some ⟨p,0,none⟩),.int .u32 (genOf pre:Nat),.slice A1 NL c1,lv] 95 (0,0)):=hh3.trans ((B4.out.block pj (HJV.out.lt pj HJV.out.gpj)).trans HJV.out.head)
      obtain ⟨-,-,jf3,-⟩:=four_cells hj5
      have hxb5:w5.heap[bx]? = some (.cells #[.int .u32 (x.1.gen:Nat),.slice A5 x.1.pay.length c5,.int .i64 (x.1.stop:Nat)] 147 (0,0)):=(h3.block bx (by have:=lt_of_block HXB.out;have:=B4.out.size;omega) (fun e=>HN1.out e.symm)).trans ((B4.out.block bx (lt_of_block HXB.out)).trans HXB.out)
      have hc15:w5.heap[w.heap.size+3]? = some (.cells #[.int .i64 (endOf pre:Nat)] 3 (0,0)):=(h3.block _ (by have:=HI.out.size;have:=B4.out.size;omega) (fun e=>HN2.out e.symm)).trans ((B4.out.block _ (by have:=HI.out.size;omega)).trans HI.out.c3)
      have HXF:=Lib.hid ((setCell_block (a:=⟨pj,2,none⟩) (x:=v3) HNB.out).trans hxb5)
      have HCF:=Lib.hid ((setCell_block (a:=⟨pj,2,none⟩) (x:=v3) HNC.out).trans hc15)
      clear h2 h3 h4 hr3 hh3 hj5 hxb5 hc15 HO4 HU2 q0 q1 q3 q0' q1' q3'
      have hf3':v3=.slice A3 (bs1.length+1) c3:=by rw [hf3,List.length_append];rfl
      clear hf3
      subst hf3'
      refine wpAnyH_take (i:=10) (v:=.pointer (some ⟨pj,0,none⟩)) rfl (by kernel_rfl) (by kernel_rfl) (by kernel_rfl) (fun _ _ _ h=>h) (Or.inl ⟨by rfl,fun w' hS=>by obtain ⟨s0,s1⟩:=hS;go_simp⟩) HS5'.out ?_
      refine wpAnyH_take (i:=11) (v:=.pointer (some ⟨pj,2,none⟩)) rfl (by kernel_rfl) (by kernel_rfl) (by kernel_rfl) (fun _ _ _ h=>h) (Or.inl ⟨by rfl,fun w' hS=>by obtain ⟨s0,s1⟩:=hS;go_simp⟩) HS5'.out ?_
      refine wpAnyH_all (rs:=[12]) (by kernel_rfl) (by simp) ?_
      intro i hi
      simp only [List.mem_cons,List.not_mem_nil,or_false] at hi
      subst hi
      refine wpOp_of rfl rfl (fun K hK=>?_)
      go_simp
      refine hK _ _ ⟨⟨(World.cell?_setCell_other _ _ _ _ (fun e=>HNA.out (by injection e with e1;exact e1.symm))).trans HS5'.out.1,(World.cell?_setCell_other _ _ _ _ (fun e=>HNB.out (by injection e with e1;exact e1.symm))).trans HS5'.out.2⟩,?_⟩
      clear hK K
      refine wpAnyH_done (by kernel_rfl) ?_ _
      obtain ⟨-,-,f2⟩:=three_cellsJ HXF.out
      obtain ⟨f5,f6⟩:=one_cellJ (b:=w.heap.size+1+1+1) HCF.out
      clear g0 g1 g3 jf3
      gi_wp2
      have:=HNX.out
      rw [←HS0'.out] at this
      exact this
     ·refine wpOp_of rfl rfl (fun K hK=>?_)
      go_simp
      refine hK _ _ ⟨⟨q0',q1'⟩,?_⟩
      clear hK K
      refine wpAnyH_all (rs:=[4]) (by kernel_rfl) (by simp) ?_
      intro i hi
      simp only [List.mem_cons,List.not_mem_nil,or_false] at hi
      subst hi
      refine wpOp_of rfl rfl (fun K hK=>?_)
      go_simp
      refine hK _ _ ⟨⟨q0',q1'⟩,?_⟩
      clear hK K
      refine wpAnyH_all (rs:=[9]) (by kernel_rfl) (by simp) ?_
      intro i hi
      simp only [List.mem_cons,List.not_mem_nil,or_false] at hi
      subst hi
      refine wpOp_of rfl rfl (fun K hK=>?_)
      refine wp_app _ (.tmp 35) (.tmp 39) 22 rfl 0 24 _ rowE (.slice A1 NL c1) bs1 rfl HO4.out _ _ [.slice A2 x.1.pay.length c2] rfl (Seg.new w2 24 #[.slice A2 x.1.pay.length c2] [.slice A2 x.1.pay.length c2] rfl (by simp [maxLen])) (fun y hy=>by simp at hy;subst hy;rfl) (by have:=HLEN.out;have:=HFL.out;simp only [List.length_cons,List.length_nil];omega) (Nat.zero_le _) (fun v3 w5 h2 h3 h4=>?_)
      have g0:=grown_cell h3 q0' (fun e=>HN0.out e)
      have g1:=grown_cell h3 q1' (fun e=>HN1.out e)
      have g3:=grown_cell h3 q3' (fun e=>HN3.out e)
      have HS5':Hid (w5.cell? ⟨w.heap.size,0,none⟩=some (.pointer (some ⟨pj,0,none⟩))∧w5.cell? ⟨bx,1,none⟩=some (.slice A5 x.1.pay.length c5)):=Lib.hid ⟨g0,g1⟩
      refine hK _ _ ⟨HS5'.out,?_⟩
      clear hK K
      obtain ⟨A3,c3,hf3⟩:=h2.form
      have hr3:w5.ownsRow 0 24 1 v3 (bs1.length+1) (bs1 ++ [.slice A2 x.1.pay.length c2]):=by have:=h2;unfold Par.Own at this;rw [List.length_append] at this;exact this
      have HNX:=Lib.hid (HI.out.next HG.out HJV.out HNE.out hG1 HBX.out HB2.out x HGX.out HU2.out _ hr3 h3 (by simpa using h4))
      have hh3:=h3.block pj (by have:=HJV.out.lt pj HJV.out.gpj;have:=B4.out.size;omega) (fun e=>HN3.out e.symm)
      have hj5:w5.heap[pj]? = some (.cells #[.pointer (some ⟨p,0,none⟩),.int .u32 (genOf pre:Nat),.slice A1 NL c1,lv] 95 (0,0)):=hh3.trans ((B4.out.block pj (HJV.out.lt pj HJV.out.gpj)).trans HJV.out.head)
      obtain ⟨-,-,jf3,-⟩:=four_cells hj5
      have hxb5:w5.heap[bx]? = some (.cells #[.int .u32 (x.1.gen:Nat),.slice A5 x.1.pay.length c5,.int .i64 (x.1.stop:Nat)] 147 (0,0)):=(h3.block bx (by have:=lt_of_block HXB.out;have:=B4.out.size;omega) (fun e=>HN1.out e.symm)).trans ((B4.out.block bx (lt_of_block HXB.out)).trans HXB.out)
      have hc15:w5.heap[w.heap.size+3]? = some (.cells #[.int .i64 (endOf pre:Nat)] 3 (0,0)):=(h3.block _ (by have:=HI.out.size;have:=B4.out.size;omega) (fun e=>HN2.out e.symm)).trans ((B4.out.block _ (by have:=HI.out.size;omega)).trans HI.out.c3)
      have HXF:=Lib.hid ((setCell_block (a:=⟨pj,2,none⟩) (x:=v3) HNB.out).trans hxb5)
      have HCF:=Lib.hid ((setCell_block (a:=⟨pj,2,none⟩) (x:=v3) HNC.out).trans hc15)
      clear h2 h3 h4 hr3 hh3 hj5 hxb5 hc15 HO4 HU2 q0 q1 q3 q0' q1' q3'
      have hf3':v3=.slice A3 (bs1.length+1) c3:=by rw [hf3,List.length_append];rfl
      clear hf3
      subst hf3'
      refine wpAnyH_take (i:=10) (v:=.pointer (some ⟨pj,0,none⟩)) rfl (by kernel_rfl) (by kernel_rfl) (by kernel_rfl) (fun _ _ _ h=>h) (Or.inl ⟨by rfl,fun w' hS=>by obtain ⟨s0,s1⟩:=hS;go_simp⟩) HS5'.out ?_
      refine wpAnyH_take (i:=11) (v:=.pointer (some ⟨pj,2,none⟩)) rfl (by kernel_rfl) (by kernel_rfl) (by kernel_rfl) (fun _ _ _ h=>h) (Or.inl ⟨by rfl,fun w' hS=>by obtain ⟨s0,s1⟩:=hS;go_simp⟩) HS5'.out ?_
      refine wpAnyH_all (rs:=[12]) (by kernel_rfl) (by simp) ?_
      intro i hi
      simp only [List.mem_cons,List.not_mem_nil,or_false] at hi
      subst hi
      refine wpOp_of rfl rfl (fun K hK=>?_)
      go_simp
      refine hK _ _ ⟨⟨(World.cell?_setCell_other _ _ _ _ (fun e=>HNA.out (by injection e with e1;exact e1.symm))).trans HS5'.out.1,(World.cell?_setCell_other _ _ _ _ (fun e=>HNB.out (by injection e with e1;exact e1.symm))).trans HS5'.out.2⟩,?_⟩
      clear hK K
      refine wpAnyH_done (by kernel_rfl) ?_ _
      obtain ⟨-,-,f2⟩:=three_cellsJ HXF.out
      obtain ⟨f5,f6⟩:=one_cellJ (b:=w.heap.size+1+1+1) HCF.out
      clear g0 g1 g3 jf3
      gi_wp2
      have:=HNX.out
      rw [←HS0'.out] at this
      exact this
   ·have hne:((x.1.gen:Int) != (genOf pre:Int))=true:=by simp;omega
    have HRT:=fun nq=>RET.out (W.drewN nq) (below_drewN (Below.refl _ W) nq) (.inr ⟨HNE.out,hg⟩)
    have HRT:=Lib.hid HRT
    gi_wp2
    refine wpIn_round_quiet (by kernel_rfl) (by kernel_rfl) (by kernel_rfl) ?_
    repeat (any_goals (first | go_big_quiet_step (fail) | quiet_step (fail)))
    all_goals (refine wpQuiet_nil ?_;intro _ hw';obtain ⟨nq,hw''⟩:=hw';subst hw'')
    gi_wp2
    exact HRT.out nq
 case done =>
  rintro D ys W hD rfl hIW hK
  obtain ⟨bv1,bs1,G1,hjv,hG1⟩:=hIW.jv
  obtain ⟨⟨j0,j1,j2,j3⟩,jf1,jf2,jf3⟩:=hjv.cells
  obtain ⟨p0,-⟩:=one_cellJ hIW.c0
  obtain ⟨r1,r1f⟩:=one_cellJ hIW.c1
  obtain ⟨r2,r2f⟩:=one_cellJ (b:=w.heap.size+1+1) hIW.c2
  obtain ⟨r3,r3f⟩:=one_cellJ (b:=w.heap.size+1+1+1) hIW.c3
  have HDF:Hid (∀ (V:World) (r:Bool),Below W.heap.size W V→(V.setCell ⟨w.heap.size+1,0,none⟩ (.bool r)).heap[D]? = some (.deferred (some []))):=Lib.hid fun V r hV=>by
   rw [setCell_block (by simp;omega)]
   exact (hV.block D (lt_of_block hK)).trans hK
  have FIN:Hid (∀ (V:World) (r:Bool),Below W.heap.size W V→r=(baseOf b).isSome→((V.setCell ⟨w.heap.size+1,0,none⟩ (.bool r)).putObj D (.deferred none)).cell? ⟨w.heap.size+1,0,none⟩=some (.bool r)∧Kept G w ((V.setCell ⟨w.heap.size+1,0,none⟩ (.bool r)).putObj D (.deferred none)) ∧
    ∀ (g:Nat) (ps:List (List UInt8)),baseOf b=some (g,ps)→∃ bv bs G',JV ((V.setCell ⟨w.heap.size+1,0,none⟩ (.bool r)).putObj D (.deferred none)) pj p g bv lv bs us ps log G'∧Grows w G G'):=Lib.hid fun V r hV hr=>by
   have hV1:=hIW.go hV
   have hk2:=(hV.block D (lt_of_block hK)).trans hK
   refine ⟨(one_cellJ ((World.putObj_heap_other (by omega)).trans (one_setJ hV1.c1))).1,?_,fun g ps e=>?_⟩
   ·exact (hV1.kept.setCell (p:=⟨w.heap.size+1,0,none⟩) (.inr (by simp)) _).grown (grownBy_putObj' _ D (.deferred none)) (fun k e=>by cases e;exact .inr (by omega))
   ·have hj:=hjv.go hV
    have hgp:genOf (frs b)=g∧pays ((frs b).drop 1)=ps:=by
     unfold baseOf at e
     split at e
     ·cases e
     ·rename_i y ys hy
      split at e
      ·cases e;rw [hy];exact ⟨rfl,rfl⟩
      ·cases e
    rw [hgp.1,hgp.2] at hj
    refine ⟨bv1,bs1,G1,hj.block fun k hk=>?_,fun k hk=>(hG1 k hk).imp id (fun h=>by omega)⟩
    have h1:k≠w.heap.size+1:=by rcases hG1 k hk with h2 | h2;(have:=HG.out k h2;omega);omega
    have h2:k≠D:=fun e=>by
     obtain ⟨o,ho,hc⟩:=hj.cel k hk
     rw [e,hk2] at ho;cases ho;cases hc
    rw [World.putObj_heap_other h2,setCell_block h1]
  have HI:=Lib.hid hIW;have HJV:=Lib.hid hjv
  clear hIW hjv
  have hmz:w.heap.size+5≤W.heap.size:=HI.out.size
  have HBZ:Hid (Below W.heap.size W W.drew):=Lib.hid ((Below.refl _ W).drew)
  obtain ⟨A1,c1,hbvf⟩:=Own.formR HJV.out.bown
  obtain ⟨NB,hNB⟩:∃ NB,NB=(pays ((frs b).drop 1)).length:=⟨_,rfl⟩
  obtain ⟨E,hE⟩:∃ E,E=endOf (frs b):=⟨_,rfl⟩
  obtain ⟨CV,hCV⟩:∃ CV,CV=cntV A c (frs b):=⟨_,rfl⟩
  rw [←hNB] at hbvf
  rw [←hE] at r3
  rw [←hCV] at r2
  rw [hbvf] at j2
  have HE:=Lib.hid hE;have HNB:=Lib.hid hNB;have HCV:=Lib.hid hCV
  have HM1:Hid (pj≠w.heap.size+1):=Lib.hid (by rcases hG1 pj HJV.out.gpj with h1 | h1;(have:=HG.out pj h1;omega);omega)
  have HS0:Hid (W.drew.cell? ⟨w.heap.size+1+1+1,0,none⟩=some (.int .i64 (E:Nat))∧W.drew.cell? ⟨w.heap.size,0,none⟩=some (.pointer (some ⟨pj,0,none⟩))∧W.drew.cell? ⟨pj,2,none⟩=some (.slice A1 NB c1)∧W.drew.cell? ⟨w.heap.size+1+1,0,none⟩=some CV):=Lib.hid ⟨r3,p0,j2,r2⟩
  clear hE hNB hCV r3 j0 j1 j2 j3 jf1 jf2 jf3 p0 r2 r2f r3f
  by_cases hnil:frs b=[]
  ·have HRS:Hid (false=(baseOf b).isSome):=Lib.hid (by unfold baseOf;rw [hnil];rfl)
   have hE0:¬ (0:Int) < (E:Int):=by rw [HE.out,hnil];simp [endOf]
   have hE5:decide (0 < E)=false:=by simp;omega
   clear hnil
   gi_wp2
   refine wpIn_wide.2 ?_
   refine wp_region_heldN (S:=(fun w'=>w'.cell? ⟨w.heap.size+1+1+1,0,none⟩=some (.int .i64 (E:Nat))∧w'.cell? ⟨w.heap.size,0,none⟩=some (.pointer (some ⟨pj,0,none⟩))∧w'.cell? ⟨pj,2,none⟩=some (.slice A1 NB c1)∧w'.cell? ⟨w.heap.size+1+1,0,none⟩=some CV)) (by kernel_rfl) ?_
   refine takeS (i:=0) (s:=45) (v:=.int .i64 (E:Nat)) (hy:=Or.inl ⟨by rfl,fun w' hS=>by obtain ⟨s0,s1,s2,s3⟩:=hS;go_simp⟩) (hS:=HS0.out) (h:=?_)
   try simp only [List.setIfInBounds_toArray,List.set_cons_zero,List.set_cons_succ]
   refine takeS (i:=1) (s:=46) (v:=.bool false) (hy:=Or.inl ⟨by rfl,fun w' hS=>by obtain ⟨s0,s1,s2,s3⟩:=hS;go_simp⟩) (hS:=HS0.out) (h:=?_)
   try simp only [List.setIfInBounds_toArray,List.set_cons_zero,List.set_cons_succ]
   refine takeS (i:=2) (s:=47) (v:=.bool false) (hy:=Or.inl ⟨by rfl,fun w' hS=>by obtain ⟨s0,s1,s2,s3⟩:=hS;go_simp⟩) (hS:=HS0.out) (h:=?_)
   try simp only [List.setIfInBounds_toArray,List.set_cons_zero,List.set_cons_succ]
   refine takeS (i:=3) (s:=48) (v:=undef) (hy:=Or.inr ⟨by rfl,rfl⟩) (hS:=HS0.out) (h:=?_)
   try simp only [List.setIfInBounds_toArray,List.set_cons_zero,List.set_cons_succ]
   refine takeS (i:=4) (s:=49) (v:=undef) (hy:=Or.inr ⟨by rfl,rfl⟩) (hS:=HS0.out) (h:=?_)
   try simp only [List.setIfInBounds_toArray,List.set_cons_zero,List.set_cons_succ]
   refine takeS (i:=5) (s:=50) (v:=undef) (hy:=Or.inr ⟨by rfl,rfl⟩) (hS:=HS0.out) (h:=?_)
   try simp only [List.setIfInBounds_toArray,List.set_cons_zero,List.set_cons_succ]
   refine takeS (i:=6) (s:=51) (v:=undef) (hy:=Or.inr ⟨by rfl,rfl⟩) (hS:=HS0.out) (h:=?_)
   try simp only [List.setIfInBounds_toArray,List.set_cons_zero,List.set_cons_succ]
   refine takeS (i:=7) (s:=52) (v:=.bool false) (hy:=Or.inl ⟨by rfl,fun w' hS=>by obtain ⟨s0,s1,s2,s3⟩:=hS;go_simp⟩) (hS:=HS0.out) (h:=?_)
   try simp only [List.setIfInBounds_toArray,List.set_cons_zero,List.set_cons_succ]
   refine takeS (i:=8) (s:=53) (v:=.bool false) (hy:=Or.inl ⟨by rfl,fun w' hS=>by obtain ⟨s0,s1,s2,s3⟩:=hS;go_simp⟩) (hS:=HS0.out) (h:=?_)
   try simp only [List.setIfInBounds_toArray,List.set_cons_zero,List.set_cons_succ]
   refine takeS (i:=9) (s:=54) (v:=undef) (hy:=Or.inr ⟨by rfl,rfl⟩) (hS:=HS0.out) (h:=?_)
   try simp only [List.setIfInBounds_toArray,List.set_cons_zero,List.set_cons_succ]
   refine takeS (i:=10) (s:=55) (v:=undef) (hy:=Or.inr ⟨by rfl,rfl⟩) (hS:=HS0.out) (h:=?_)
   try simp only [List.setIfInBounds_toArray,List.set_cons_zero,List.set_cons_succ]
   refine takeS (i:=11) (s:=56) (v:=undef) (hy:=Or.inr ⟨by rfl,rfl⟩) (hS:=HS0.out) (h:=?_)
   try simp only [List.setIfInBounds_toArray,List.set_cons_zero,List.set_cons_succ]
   refine takeS (i:=12) (s:=57) (v:=undef) (hy:=Or.inr ⟨by rfl,rfl⟩) (hS:=HS0.out) (h:=?_)
   try simp only [List.setIfInBounds_toArray,List.set_cons_zero,List.set_cons_succ]
   refine takeS (i:=13) (s:=58) (v:=undef) (hy:=Or.inr ⟨by rfl,rfl⟩) (hS:=HS0.out) (h:=?_)
   try simp only [List.setIfInBounds_toArray,List.set_cons_zero,List.set_cons_succ]
   refine takeS (i:=14) (s:=59) (v:=undef) (hy:=Or.inr ⟨by rfl,rfl⟩) (hS:=HS0.out) (h:=?_)
   try simp only [List.setIfInBounds_toArray,List.set_cons_zero,List.set_cons_succ]
   refine takeS (i:=15) (s:=60) (v:=undef) (hy:=Or.inr ⟨by rfl,rfl⟩) (hS:=HS0.out) (h:=?_)
   try simp only [List.setIfInBounds_toArray,List.set_cons_zero,List.set_cons_succ]
   refine takeS (i:=16) (s:=61) (v:=undef) (hy:=Or.inr ⟨by rfl,rfl⟩) (hS:=HS0.out) (h:=?_)
   try simp only [List.setIfInBounds_toArray,List.set_cons_zero,List.set_cons_succ]
   refine takeS (i:=17) (s:=62) (v:=undef) (hy:=Or.inr ⟨by rfl,rfl⟩) (hS:=HS0.out) (h:=?_)
   try simp only [List.setIfInBounds_toArray,List.set_cons_zero,List.set_cons_succ]
   refine takeS (i:=18) (s:=63) (v:=.bool false) (hy:=Or.inl ⟨by rfl,fun w' hS=>by obtain ⟨s0,s1,s2,s3⟩:=hS;go_simp⟩) (hS:=HS0.out) (h:=?_)
   try simp only [List.setIfInBounds_toArray,List.set_cons_zero,List.set_cons_succ]
   refine wpAnyH_all (rs:=[19]) (by kernel_rfl) (by simp) ?_
   intro i hi
   simp only [List.mem_cons,List.not_mem_nil,or_false] at hi
   subst hi
   refine wpOp_of rfl rfl (fun K hK=>?_)
   go_simp
   refine hK _ _ ⟨⟨(World.cell?_setCell_other _ _ _ _ (fun e=>by injection e with e1;omega)).trans HS0.out.1,(World.cell?_setCell_other _ _ _ _ (fun e=>by injection e with e1;omega)).trans HS0.out.2.1,(World.cell?_setCell_other _ _ _ _ (fun e=>by injection e with e1;exact HM1.out e1.symm)).trans HS0.out.2.2.1,(World.cell?_setCell_other _ _ _ _ (fun e=>by injection e with e1;omega)).trans HS0.out.2.2.2⟩,?_⟩
   clear hK K
   refine wpAnyH_done (by kernel_rfl) ?_ _
   gi_wp2
   refine ⟨by simp,.inl ⟨_,_,rfl,run_takeDeferred (show ((W.setCell ⟨w.heap.size+1,0,none⟩ (.bool false)).drew).heap[D]? = some (.deferred (some [])) from HDF.out W.drew false HBZ.out),?_⟩⟩
   obtain ⟨f4,f5,f6⟩:=FIN.out W.drew false HBZ.out HRS.out
   have f4':((W.setCell ⟨w.heap.size+1,0,none⟩ (.bool false)).drew.putObj D (.deferred none)).cell? ⟨w.heap.size+1,0,none⟩=some (.bool false):=f4
   exact ⟨.bool false,by simp [results,Tryz.results43,go_sem,f4'],by rw [←HRS.out],f5,f6⟩
  by_cases hend:E=b.length
  ·obtain ⟨y,ys,hy⟩:∃ y ys,frs b=y :: ys:=by
    cases hf:frs b with
    | nil=>exact absurd hf hnil
    | cons y ys=>exact ⟨y,ys,rfl⟩
   have hok:=HI.out.ok
   rw [hy] at hok
   obtain ⟨hok1,hok2⟩:=hok
   obtain ⟨hx1,hx2,hx3,hx4,hx5,hx6⟩:=frAt_some y.2
   have hsb:Seg W W.heap.size (.slice A b.length c) (byteCells b):=(HBS.out.keep (S':=fun k=>k < w.heap.size) fun k hk=>⟨hk.1,HI.out.kept.block k hk.1 hk.2⟩).seg fun k hk=>by omega
   obtain ⟨-,A5,c5,e5,s5⟩:=seg_mid hsb (y.1.start+12) y.1.stop (by omega) (by omega)
   rw [show y.1.stop - (y.1.start+12)=y.1.pay.length by omega] at e5 s5
   rw [←hx4] at s5
   have hM:=num4_lt y.1.pay
   have hv:=value_any _ _ _ W.drew s5 (by omega)
   have hcv:CV=.slice A5 4 c5:=by rw [HCV.out,hy];show sliced A (y.1.start+12) y.1.stop c 1=_;rw [e5,hok1]
   obtain ⟨M,hMe⟩:∃ M,M=num4 y.1.pay:=⟨_,rfl⟩
   rw [hok1,←hMe] at hv
   rw [←hMe] at hM
   subst hcv
   have HVC:Hid (Calls Tryz.prog 83 #[.slice A5 4 c5] W.drew fun e V=>e=.returned (.int .u32 (M:Nat))∧Hid (V.cell? ⟨w.heap.size+1+1+1,0,none⟩=some (.int .i64 (E:Nat))∧V.cell? ⟨w.heap.size,0,none⟩=some (.pointer (some ⟨pj,0,none⟩))∧V.cell? ⟨pj,2,none⟩=some (.slice A1 NB c1)∧V.cell? ⟨w.heap.size+1+1,0,none⟩=some (.slice A5 4 c5))∧Hid (Below W.heap.size W V)∧V.cell? ⟨w.heap.size+1,0,none⟩=some (.bool false)∧V.frozen? ⟨w.heap.size+1,0,none⟩=false):=Lib.hid (by
    refine hv.mono ?_
    rintro e V ⟨rfl,n,rfl⟩
    exact ⟨rfl,Lib.hid HS0.out,Lib.hid (below_drewN HBZ.out n),r1,r1f⟩)
   have HRS0:Hid (decide (NB=M)=(baseOf b).isSome):=Lib.hid (by
    have hnb:NB=ys.length:=by rw [HNB.out,hy];simp [pays]
    unfold baseOf
    rw [hy]
    simp only
    by_cases hc:ys.length=num4 y.1.pay
    ·rw [if_pos ⟨hok1,hok2,by rw [←hy,←HE.out,hend],hc⟩,decide_eq_true (by rw [hnb,hMe];exact hc)];rfl
    ·rw [if_neg (fun h3=>hc h3.2.2.2),decide_eq_false (by rw [hnb,hMe];exact hc)];rfl)
   have hwM:IntKind.i64.wrap (M:Int)=(M:Int):=IntWalk.i64_in _ (by omega)
   have hE1:12≤E:=by rw [HE.out];exact endOf_pos hnil
   have hE2:(0:Int) < (E:Int):=by omega
   have hE3:((E:Int) == (b.length:Int))=true:=by simp;omega
   have hE4:(E == b.length)=true:=by simpa using hend
   have hE5:decide (0 < E)=true:=by simp;omega
   clear hnil hy hok1 hok2 hx1 hx2 hx3 hx4 hx5 hx6 hsb e5 s5 hv hMe hend
   by_cases hcnt:NB=M
   ·have HRS:Hid (true=(baseOf b).isSome):=Lib.hid (by rw [←HRS0.out,decide_eq_true hcnt])
    have hc1:((NB:Int) == (M:Int))=true:=by simp;omega
    have hc2:(NB == M)=true:=by simpa using hcnt
    clear hcnt HRS0
    gi_wp2
    refine wpIn_wide.2 ?_
    refine wp_region_heldN (S:=(fun w'=>w'.cell? ⟨w.heap.size+1+1+1,0,none⟩=some (.int .i64 (E:Nat))∧w'.cell? ⟨w.heap.size,0,none⟩=some (.pointer (some ⟨pj,0,none⟩))∧w'.cell? ⟨pj,2,none⟩=some (.slice A1 NB c1)∧w'.cell? ⟨w.heap.size+1+1,0,none⟩=some (.slice A5 4 c5))) (by kernel_rfl) ?_
    refine takeS (i:=0) (s:=45) (v:=.int .i64 (E:Nat)) (hy:=Or.inl ⟨by rfl,fun w' hS=>by obtain ⟨s0,s1,s2,s3⟩:=hS;go_simp⟩) (hS:=HS0.out) (h:=?_)
    try simp only [List.setIfInBounds_toArray,List.set_cons_zero,List.set_cons_succ]
    refine takeS (i:=1) (s:=46) (v:=.bool true) (hy:=Or.inl ⟨by rfl,fun w' hS=>by obtain ⟨s0,s1,s2,s3⟩:=hS;go_simp⟩) (hS:=HS0.out) (h:=?_)
    try simp only [List.setIfInBounds_toArray,List.set_cons_zero,List.set_cons_succ]
    refine takeS (i:=2) (s:=47) (v:=.bool true) (hy:=Or.inl ⟨by rfl,fun w' hS=>by obtain ⟨s0,s1,s2,s3⟩:=hS;go_simp⟩) (hS:=HS0.out) (h:=?_)
    try simp only [List.setIfInBounds_toArray,List.set_cons_zero,List.set_cons_succ]
    refine takeS (i:=3) (s:=48) (v:=.int .i64 (E:Nat)) (hy:=Or.inl ⟨by rfl,fun w' hS=>by obtain ⟨s0,s1,s2,s3⟩:=hS;go_simp⟩) (hS:=HS0.out) (h:=?_)
    try simp only [List.setIfInBounds_toArray,List.set_cons_zero,List.set_cons_succ]
    refine takeS (i:=4) (s:=49) (v:=.slice A b.length c) (hy:=Or.inl ⟨by rfl,fun w' hS=>by obtain ⟨s0,s1,s2,s3⟩:=hS;go_simp⟩) (hS:=HS0.out) (h:=?_)
    try simp only [List.setIfInBounds_toArray,List.set_cons_zero,List.set_cons_succ]
    refine takeS (i:=5) (s:=50) (v:=.int .i64 b.length) (hy:=Or.inl ⟨by rfl,fun w' hS=>by obtain ⟨s0,s1,s2,s3⟩:=hS;go_simp⟩) (hS:=HS0.out) (h:=?_)
    try simp only [List.setIfInBounds_toArray,List.set_cons_zero,List.set_cons_succ]
    refine takeS (i:=6) (s:=51) (v:=.bool true) (hy:=Or.inl ⟨by rfl,fun w' hS=>by obtain ⟨s0,s1,s2,s3⟩:=hS;go_simp⟩) (hS:=HS0.out) (h:=?_)
    try simp only [List.setIfInBounds_toArray,List.set_cons_zero,List.set_cons_succ]
    refine takeS (i:=7) (s:=52) (v:=.bool true) (hy:=Or.inl ⟨by rfl,fun w' hS=>by obtain ⟨s0,s1,s2,s3⟩:=hS;go_simp⟩) (hS:=HS0.out) (h:=?_)
    try simp only [List.setIfInBounds_toArray,List.set_cons_zero,List.set_cons_succ]
    refine takeS (i:=8) (s:=53) (v:=.bool true) (hy:=Or.inl ⟨by rfl,fun w' hS=>by obtain ⟨s0,s1,s2,s3⟩:=hS;go_simp⟩) (hS:=HS0.out) (h:=?_)
    try simp only [List.setIfInBounds_toArray,List.set_cons_zero,List.set_cons_succ]
    refine takeS (i:=9) (s:=54) (v:=.pointer (some ⟨pj,0,none⟩)) (hy:=Or.inl ⟨by rfl,fun w' hS=>by obtain ⟨s0,s1,s2,s3⟩:=hS;go_simp⟩) (hS:=HS0.out) (h:=?_)
    try simp only [List.setIfInBounds_toArray,List.set_cons_zero,List.set_cons_succ]
    refine takeS (i:=10) (s:=55) (v:=.pointer (some ⟨pj,0,none⟩)) (hy:=Or.inl ⟨by rfl,fun w' hS=>by obtain ⟨s0,s1,s2,s3⟩:=hS;go_simp⟩) (hS:=HS0.out) (h:=?_)
    try simp only [List.setIfInBounds_toArray,List.set_cons_zero,List.set_cons_succ]
    refine takeS (i:=11) (s:=56) (v:=.pointer (some ⟨pj,2,none⟩)) (hy:=Or.inl ⟨by rfl,fun w' hS=>by obtain ⟨s0,s1,s2,s3⟩:=hS;go_simp⟩) (hS:=HS0.out) (h:=?_)
    try simp only [List.setIfInBounds_toArray,List.set_cons_zero,List.set_cons_succ]
    refine takeS (i:=12) (s:=57) (v:=.slice A1 NB c1) (hy:=Or.inl ⟨by rfl,fun w' hS=>by obtain ⟨s0,s1,s2,s3⟩:=hS;go_simp⟩) (hS:=HS0.out) (h:=?_)
    try simp only [List.setIfInBounds_toArray,List.set_cons_zero,List.set_cons_succ]
    refine takeS (i:=13) (s:=58) (v:=.int .i64 (NB:Nat)) (hy:=Or.inl ⟨by rfl,fun w' hS=>by obtain ⟨s0,s1,s2,s3⟩:=hS;go_simp⟩) (hS:=HS0.out) (h:=?_)
    try simp only [List.setIfInBounds_toArray,List.set_cons_zero,List.set_cons_succ]
    refine takeS (i:=14) (s:=59) (v:=.slice A5 4 c5) (hy:=Or.inl ⟨by rfl,fun w' hS=>by obtain ⟨s0,s1,s2,s3⟩:=hS;go_simp⟩) (hS:=HS0.out) (h:=?_)
    try simp only [List.setIfInBounds_toArray,List.set_cons_zero,List.set_cons_succ]
    refine wpAnyH_all (rs:=[15]) (by kernel_rfl) (by simp) ?_
    intro i hi
    simp only [List.mem_cons,List.not_mem_nil,or_false] at hi
    subst hi
    refine wpOp_of rfl rfl (fun K hK=>?_)
    go_simp
    refine HVC.out.mono ?_
    rintro e V ⟨rfl,HSV,HBV,v1,v2⟩
    refine hK _ _ ⟨HSV.out,?_⟩
    clear hK K
    change wpAnyH _ _ _ _ _ _ _ { tmps:=#[.pointer (some ⟨pj,0,none⟩),.slice A b.length c,.pointer (some ⟨w.heap.size,0,none⟩),undef,.pointer (some ⟨w.heap.size+1,0,none⟩),.pointer (some ⟨w.heap.size+1+1,0,none⟩),.pointer (some ⟨w.heap.size+1+1+1,0,none⟩),undef,.slice A b.length c,.func (.func 123) #[] #[.pointer (some ⟨w.heap.size+1+1+1+1,0,none⟩)],undef,undef,undef,undef,undef,undef,undef,undef,undef,undef,undef,undef,undef,undef,undef,undef,undef,undef,undef,undef,undef,undef,undef,undef,undef,undef,undef,undef,undef,undef,undef,undef,undef,undef,undef,.int .i64 (E:Nat),.bool true,.bool true,.int .i64 (E:Nat),.slice A b.length c,.int .i64 b.length,.bool true,.bool true,.bool true,.pointer (some ⟨pj,0,none⟩),.pointer (some ⟨pj,0,none⟩),.pointer (some ⟨pj,2,none⟩),.slice A1 NB c1,.int .i64 (NB:Nat),.slice A5 4 c5,.int .u32 (M:Nat),undef,undef,undef],defers:=[{ target:=.collected D,args:=#[] }] } _
    refine takeS (i:=16) (s:=61) (v:=.int .i64 (M:Nat)) (hy:=Or.inl ⟨by rfl,fun w' hS=>by obtain ⟨s0,s1,s2,s3⟩:=hS;go_simp⟩) (hS:=HSV.out) (h:=?_)
    try simp only [List.setIfInBounds_toArray,List.set_cons_zero,List.set_cons_succ]
    refine takeS (i:=17) (s:=62) (v:=.bool true) (hy:=Or.inl ⟨by rfl,fun w' hS=>by obtain ⟨s0,s1,s2,s3⟩:=hS;go_simp⟩) (hS:=HSV.out) (h:=?_)
    try simp only [List.setIfInBounds_toArray,List.set_cons_zero,List.set_cons_succ]
    refine takeS (i:=18) (s:=63) (v:=.bool true) (hy:=Or.inl ⟨by rfl,fun w' hS=>by obtain ⟨s0,s1,s2,s3⟩:=hS;go_simp⟩) (hS:=HSV.out) (h:=?_)
    try simp only [List.setIfInBounds_toArray,List.set_cons_zero,List.set_cons_succ]
    refine wpAnyH_all (rs:=[19]) (by kernel_rfl) (by simp) ?_
    intro i hi
    simp only [List.mem_cons,List.not_mem_nil,or_false] at hi
    subst hi
    refine wpOp_of rfl rfl (fun K hK=>?_)
    go_simp
    refine hK _ _ ⟨⟨(World.cell?_setCell_other _ _ _ _ (fun e=>by injection e with e1;omega)).trans HSV.out.1,(World.cell?_setCell_other _ _ _ _ (fun e=>by injection e with e1;omega)).trans HSV.out.2.1,(World.cell?_setCell_other _ _ _ _ (fun e=>by injection e with e1;exact HM1.out e1.symm)).trans HSV.out.2.2.1,(World.cell?_setCell_other _ _ _ _ (fun e=>by injection e with e1;omega)).trans HSV.out.2.2.2⟩,?_⟩
    clear hK K
    refine wpAnyH_done (by kernel_rfl) ?_ _
    gi_wp2
    refine ⟨by simp,.inl ⟨_,_,rfl,run_takeDeferred (HDF.out _ _ HBV.out),?_⟩⟩
    obtain ⟨f4,f5,f6⟩:=FIN.out _ true HBV.out HRS.out
    exact ⟨.bool true,by simp [results,Tryz.results43,go_sem,f4],by rw [←HRS.out],f5,f6⟩
   ·have HRS:Hid (false=(baseOf b).isSome):=Lib.hid (by rw [←HRS0.out,decide_eq_false hcnt])
    have hc1:((NB:Int) == (M:Int))=false:=by simp;omega
    have hc2:(NB == M)=false:=by simpa using hcnt
    clear hcnt HRS0
    gi_wp2
    refine wpIn_wide.2 ?_
    refine wp_region_heldN (S:=(fun w'=>w'.cell? ⟨w.heap.size+1+1+1,0,none⟩=some (.int .i64 (E:Nat))∧w'.cell? ⟨w.heap.size,0,none⟩=some (.pointer (some ⟨pj,0,none⟩))∧w'.cell? ⟨pj,2,none⟩=some (.slice A1 NB c1)∧w'.cell? ⟨w.heap.size+1+1,0,none⟩=some (.slice A5 4 c5))) (by kernel_rfl) ?_
    refine takeS (i:=0) (s:=45) (v:=.int .i64 (E:Nat)) (hy:=Or.inl ⟨by rfl,fun w' hS=>by obtain ⟨s0,s1,s2,s3⟩:=hS;go_simp⟩) (hS:=HS0.out) (h:=?_)
    try simp only [List.setIfInBounds_toArray,List.set_cons_zero,List.set_cons_succ]
    refine takeS (i:=1) (s:=46) (v:=.bool true) (hy:=Or.inl ⟨by rfl,fun w' hS=>by obtain ⟨s0,s1,s2,s3⟩:=hS;go_simp⟩) (hS:=HS0.out) (h:=?_)
    try simp only [List.setIfInBounds_toArray,List.set_cons_zero,List.set_cons_succ]
    refine takeS (i:=2) (s:=47) (v:=.bool true) (hy:=Or.inl ⟨by rfl,fun w' hS=>by obtain ⟨s0,s1,s2,s3⟩:=hS;go_simp⟩) (hS:=HS0.out) (h:=?_)
    try simp only [List.setIfInBounds_toArray,List.set_cons_zero,List.set_cons_succ]
    refine takeS (i:=3) (s:=48) (v:=.int .i64 (E:Nat)) (hy:=Or.inl ⟨by rfl,fun w' hS=>by obtain ⟨s0,s1,s2,s3⟩:=hS;go_simp⟩) (hS:=HS0.out) (h:=?_)
    try simp only [List.setIfInBounds_toArray,List.set_cons_zero,List.set_cons_succ]
    refine takeS (i:=4) (s:=49) (v:=.slice A b.length c) (hy:=Or.inl ⟨by rfl,fun w' hS=>by obtain ⟨s0,s1,s2,s3⟩:=hS;go_simp⟩) (hS:=HS0.out) (h:=?_)
    try simp only [List.setIfInBounds_toArray,List.set_cons_zero,List.set_cons_succ]
    refine takeS (i:=5) (s:=50) (v:=.int .i64 b.length) (hy:=Or.inl ⟨by rfl,fun w' hS=>by obtain ⟨s0,s1,s2,s3⟩:=hS;go_simp⟩) (hS:=HS0.out) (h:=?_)
    try simp only [List.setIfInBounds_toArray,List.set_cons_zero,List.set_cons_succ]
    refine takeS (i:=6) (s:=51) (v:=.bool true) (hy:=Or.inl ⟨by rfl,fun w' hS=>by obtain ⟨s0,s1,s2,s3⟩:=hS;go_simp⟩) (hS:=HS0.out) (h:=?_)
    try simp only [List.setIfInBounds_toArray,List.set_cons_zero,List.set_cons_succ]
    refine takeS (i:=7) (s:=52) (v:=.bool true) (hy:=Or.inl ⟨by rfl,fun w' hS=>by obtain ⟨s0,s1,s2,s3⟩:=hS;go_simp⟩) (hS:=HS0.out) (h:=?_)
    try simp only [List.setIfInBounds_toArray,List.set_cons_zero,List.set_cons_succ]
    refine takeS (i:=8) (s:=53) (v:=.bool true) (hy:=Or.inl ⟨by rfl,fun w' hS=>by obtain ⟨s0,s1,s2,s3⟩:=hS;go_simp⟩) (hS:=HS0.out) (h:=?_)
    try simp only [List.setIfInBounds_toArray,List.set_cons_zero,List.set_cons_succ]
    refine takeS (i:=9) (s:=54) (v:=.pointer (some ⟨pj,0,none⟩)) (hy:=Or.inl ⟨by rfl,fun w' hS=>by obtain ⟨s0,s1,s2,s3⟩:=hS;go_simp⟩) (hS:=HS0.out) (h:=?_)
    try simp only [List.setIfInBounds_toArray,List.set_cons_zero,List.set_cons_succ]
    refine takeS (i:=10) (s:=55) (v:=.pointer (some ⟨pj,0,none⟩)) (hy:=Or.inl ⟨by rfl,fun w' hS=>by obtain ⟨s0,s1,s2,s3⟩:=hS;go_simp⟩) (hS:=HS0.out) (h:=?_)
    try simp only [List.setIfInBounds_toArray,List.set_cons_zero,List.set_cons_succ]
    refine takeS (i:=11) (s:=56) (v:=.pointer (some ⟨pj,2,none⟩)) (hy:=Or.inl ⟨by rfl,fun w' hS=>by obtain ⟨s0,s1,s2,s3⟩:=hS;go_simp⟩) (hS:=HS0.out) (h:=?_)
    try simp only [List.setIfInBounds_toArray,List.set_cons_zero,List.set_cons_succ]
    refine takeS (i:=12) (s:=57) (v:=.slice A1 NB c1) (hy:=Or.inl ⟨by rfl,fun w' hS=>by obtain ⟨s0,s1,s2,s3⟩:=hS;go_simp⟩) (hS:=HS0.out) (h:=?_)
    try simp only [List.setIfInBounds_toArray,List.set_cons_zero,List.set_cons_succ]
    refine takeS (i:=13) (s:=58) (v:=.int .i64 (NB:Nat)) (hy:=Or.inl ⟨by rfl,fun w' hS=>by obtain ⟨s0,s1,s2,s3⟩:=hS;go_simp⟩) (hS:=HS0.out) (h:=?_)
    try simp only [List.setIfInBounds_toArray,List.set_cons_zero,List.set_cons_succ]
    refine takeS (i:=14) (s:=59) (v:=.slice A5 4 c5) (hy:=Or.inl ⟨by rfl,fun w' hS=>by obtain ⟨s0,s1,s2,s3⟩:=hS;go_simp⟩) (hS:=HS0.out) (h:=?_)
    try simp only [List.setIfInBounds_toArray,List.set_cons_zero,List.set_cons_succ]
    refine wpAnyH_all (rs:=[15]) (by kernel_rfl) (by simp) ?_
    intro i hi
    simp only [List.mem_cons,List.not_mem_nil,or_false] at hi
    subst hi
    refine wpOp_of rfl rfl (fun K hK=>?_)
    go_simp
    refine HVC.out.mono ?_
    rintro e V ⟨rfl,HSV,HBV,v1,v2⟩
    refine hK _ _ ⟨HSV.out,?_⟩
    clear hK K
    change wpAnyH _ _ _ _ _ _ _ { tmps:=#[.pointer (some ⟨pj,0,none⟩),.slice A b.length c,.pointer (some ⟨w.heap.size,0,none⟩),undef,.pointer (some ⟨w.heap.size+1,0,none⟩),.pointer (some ⟨w.heap.size+1+1,0,none⟩),.pointer (some ⟨w.heap.size+1+1+1,0,none⟩),undef,.slice A b.length c,.func (.func 123) #[] #[.pointer (some ⟨w.heap.size+1+1+1+1,0,none⟩)],undef,undef,undef,undef,undef,undef,undef,undef,undef,undef,undef,undef,undef,undef,undef,undef,undef,undef,undef,undef,undef,undef,undef,undef,undef,undef,undef,undef,undef,undef,undef,undef,undef,undef,undef,.int .i64 (E:Nat),.bool true,.bool true,.int .i64 (E:Nat),.slice A b.length c,.int .i64 b.length,.bool true,.bool true,.bool true,.pointer (some ⟨pj,0,none⟩),.pointer (some ⟨pj,0,none⟩),.pointer (some ⟨pj,2,none⟩),.slice A1 NB c1,.int .i64 (NB:Nat),.slice A5 4 c5,.int .u32 (M:Nat),undef,undef,undef],defers:=[{ target:=.collected D,args:=#[] }] } _
    refine takeS (i:=16) (s:=61) (v:=.int .i64 (M:Nat)) (hy:=Or.inl ⟨by rfl,fun w' hS=>by obtain ⟨s0,s1,s2,s3⟩:=hS;go_simp⟩) (hS:=HSV.out) (h:=?_)
    try simp only [List.setIfInBounds_toArray,List.set_cons_zero,List.set_cons_succ]
    refine takeS (i:=17) (s:=62) (v:=.bool false) (hy:=Or.inl ⟨by rfl,fun w' hS=>by obtain ⟨s0,s1,s2,s3⟩:=hS;go_simp⟩) (hS:=HSV.out) (h:=?_)
    try simp only [List.setIfInBounds_toArray,List.set_cons_zero,List.set_cons_succ]
    refine takeS (i:=18) (s:=63) (v:=.bool false) (hy:=Or.inl ⟨by rfl,fun w' hS=>by obtain ⟨s0,s1,s2,s3⟩:=hS;go_simp⟩) (hS:=HSV.out) (h:=?_)
    try simp only [List.setIfInBounds_toArray,List.set_cons_zero,List.set_cons_succ]
    refine wpAnyH_all (rs:=[19]) (by kernel_rfl) (by simp) ?_
    intro i hi
    simp only [List.mem_cons,List.not_mem_nil,or_false] at hi
    subst hi
    refine wpOp_of rfl rfl (fun K hK=>?_)
    go_simp
    refine hK _ _ ⟨⟨(World.cell?_setCell_other _ _ _ _ (fun e=>by injection e with e1;omega)).trans HSV.out.1,(World.cell?_setCell_other _ _ _ _ (fun e=>by injection e with e1;omega)).trans HSV.out.2.1,(World.cell?_setCell_other _ _ _ _ (fun e=>by injection e with e1;exact HM1.out e1.symm)).trans HSV.out.2.2.1,(World.cell?_setCell_other _ _ _ _ (fun e=>by injection e with e1;omega)).trans HSV.out.2.2.2⟩,?_⟩
    clear hK K
    refine wpAnyH_done (by kernel_rfl) ?_ _
    gi_wp2
    refine ⟨by simp,.inl ⟨_,_,rfl,run_takeDeferred (HDF.out _ _ HBV.out),?_⟩⟩
    obtain ⟨f4,f5,f6⟩:=FIN.out _ false HBV.out HRS.out
    exact ⟨.bool false,by simp [results,Tryz.results43,go_sem,f4],by rw [←HRS.out],f5,f6⟩
  ·have HRS:Hid (false=(baseOf b).isSome):=Lib.hid (by
    unfold baseOf
    split
    ·rfl
    ·rename_i y ys hy
     rw [if_neg (fun h3=>hend (by rw [HE.out,hy];exact h3.2.2.1))]
     rfl)
   have hE1:12≤E:=by rw [HE.out];exact endOf_pos hnil
   have hE2:(0:Int) < (E:Int):=by omega
   have hE3:((E:Int) == (b.length:Int))=false:=by simp;omega
   have hE4:(E == b.length)=false:=by simpa using hend
   have hE5:decide (0 < E)=true:=by simp;omega
   clear hnil
   gi_wp2
   refine wpIn_wide.2 ?_
   refine wp_region_heldN (S:=(fun w'=>w'.cell? ⟨w.heap.size+1+1+1,0,none⟩=some (.int .i64 (E:Nat))∧w'.cell? ⟨w.heap.size,0,none⟩=some (.pointer (some ⟨pj,0,none⟩))∧w'.cell? ⟨pj,2,none⟩=some (.slice A1 NB c1)∧w'.cell? ⟨w.heap.size+1+1,0,none⟩=some CV)) (by kernel_rfl) ?_
   refine takeS (i:=0) (s:=45) (v:=.int .i64 (E:Nat)) (hy:=Or.inl ⟨by rfl,fun w' hS=>by obtain ⟨s0,s1,s2,s3⟩:=hS;go_simp⟩) (hS:=HS0.out) (h:=?_)
   try simp only [List.setIfInBounds_toArray,List.set_cons_zero,List.set_cons_succ]
   refine takeS (i:=1) (s:=46) (v:=.bool true) (hy:=Or.inl ⟨by rfl,fun w' hS=>by obtain ⟨s0,s1,s2,s3⟩:=hS;go_simp⟩) (hS:=HS0.out) (h:=?_)
   try simp only [List.setIfInBounds_toArray,List.set_cons_zero,List.set_cons_succ]
   refine takeS (i:=2) (s:=47) (v:=.bool true) (hy:=Or.inl ⟨by rfl,fun w' hS=>by obtain ⟨s0,s1,s2,s3⟩:=hS;go_simp⟩) (hS:=HS0.out) (h:=?_)
   try simp only [List.setIfInBounds_toArray,List.set_cons_zero,List.set_cons_succ]
   refine takeS (i:=3) (s:=48) (v:=.int .i64 (E:Nat)) (hy:=Or.inl ⟨by rfl,fun w' hS=>by obtain ⟨s0,s1,s2,s3⟩:=hS;go_simp⟩) (hS:=HS0.out) (h:=?_)
   try simp only [List.setIfInBounds_toArray,List.set_cons_zero,List.set_cons_succ]
   refine takeS (i:=4) (s:=49) (v:=.slice A b.length c) (hy:=Or.inl ⟨by rfl,fun w' hS=>by obtain ⟨s0,s1,s2,s3⟩:=hS;go_simp⟩) (hS:=HS0.out) (h:=?_)
   try simp only [List.setIfInBounds_toArray,List.set_cons_zero,List.set_cons_succ]
   refine takeS (i:=5) (s:=50) (v:=.int .i64 b.length) (hy:=Or.inl ⟨by rfl,fun w' hS=>by obtain ⟨s0,s1,s2,s3⟩:=hS;go_simp⟩) (hS:=HS0.out) (h:=?_)
   try simp only [List.setIfInBounds_toArray,List.set_cons_zero,List.set_cons_succ]
   refine takeS (i:=6) (s:=51) (v:=.bool false) (hy:=Or.inl ⟨by rfl,fun w' hS=>by obtain ⟨s0,s1,s2,s3⟩:=hS;go_simp⟩) (hS:=HS0.out) (h:=?_)
   try simp only [List.setIfInBounds_toArray,List.set_cons_zero,List.set_cons_succ]
   refine takeS (i:=7) (s:=52) (v:=.bool false) (hy:=Or.inl ⟨by rfl,fun w' hS=>by obtain ⟨s0,s1,s2,s3⟩:=hS;go_simp⟩) (hS:=HS0.out) (h:=?_)
   try simp only [List.setIfInBounds_toArray,List.set_cons_zero,List.set_cons_succ]
   refine takeS (i:=8) (s:=53) (v:=.bool false) (hy:=Or.inl ⟨by rfl,fun w' hS=>by obtain ⟨s0,s1,s2,s3⟩:=hS;go_simp⟩) (hS:=HS0.out) (h:=?_)
   try simp only [List.setIfInBounds_toArray,List.set_cons_zero,List.set_cons_succ]
   refine takeS (i:=9) (s:=54) (v:=undef) (hy:=Or.inr ⟨by rfl,rfl⟩) (hS:=HS0.out) (h:=?_)
   try simp only [List.setIfInBounds_toArray,List.set_cons_zero,List.set_cons_succ]
   refine takeS (i:=10) (s:=55) (v:=undef) (hy:=Or.inr ⟨by rfl,rfl⟩) (hS:=HS0.out) (h:=?_)
   try simp only [List.setIfInBounds_toArray,List.set_cons_zero,List.set_cons_succ]
   refine takeS (i:=11) (s:=56) (v:=undef) (hy:=Or.inr ⟨by rfl,rfl⟩) (hS:=HS0.out) (h:=?_)
   try simp only [List.setIfInBounds_toArray,List.set_cons_zero,List.set_cons_succ]
   refine takeS (i:=12) (s:=57) (v:=undef) (hy:=Or.inr ⟨by rfl,rfl⟩) (hS:=HS0.out) (h:=?_)
   try simp only [List.setIfInBounds_toArray,List.set_cons_zero,List.set_cons_succ]
   refine takeS (i:=13) (s:=58) (v:=undef) (hy:=Or.inr ⟨by rfl,rfl⟩) (hS:=HS0.out) (h:=?_)
   try simp only [List.setIfInBounds_toArray,List.set_cons_zero,List.set_cons_succ]
   refine takeS (i:=14) (s:=59) (v:=undef) (hy:=Or.inr ⟨by rfl,rfl⟩) (hS:=HS0.out) (h:=?_)
   try simp only [List.setIfInBounds_toArray,List.set_cons_zero,List.set_cons_succ]
   refine takeS (i:=15) (s:=60) (v:=undef) (hy:=Or.inr ⟨by rfl,rfl⟩) (hS:=HS0.out) (h:=?_)
   try simp only [List.setIfInBounds_toArray,List.set_cons_zero,List.set_cons_succ]
   refine takeS (i:=16) (s:=61) (v:=undef) (hy:=Or.inr ⟨by rfl,rfl⟩) (hS:=HS0.out) (h:=?_)
   try simp only [List.setIfInBounds_toArray,List.set_cons_zero,List.set_cons_succ]
   refine takeS (i:=17) (s:=62) (v:=undef) (hy:=Or.inr ⟨by rfl,rfl⟩) (hS:=HS0.out) (h:=?_)
   try simp only [List.setIfInBounds_toArray,List.set_cons_zero,List.set_cons_succ]
   refine takeS (i:=18) (s:=63) (v:=.bool false) (hy:=Or.inl ⟨by rfl,fun w' hS=>by obtain ⟨s0,s1,s2,s3⟩:=hS;go_simp⟩) (hS:=HS0.out) (h:=?_)
   try simp only [List.setIfInBounds_toArray,List.set_cons_zero,List.set_cons_succ]
   refine wpAnyH_all (rs:=[19]) (by kernel_rfl) (by simp) ?_
   intro i hi
   simp only [List.mem_cons,List.not_mem_nil,or_false] at hi
   subst hi
   refine wpOp_of rfl rfl (fun K hK=>?_)
   go_simp
   refine hK _ _ ⟨⟨(World.cell?_setCell_other _ _ _ _ (fun e=>by injection e with e1;omega)).trans HS0.out.1,(World.cell?_setCell_other _ _ _ _ (fun e=>by injection e with e1;omega)).trans HS0.out.2.1,(World.cell?_setCell_other _ _ _ _ (fun e=>by injection e with e1;exact HM1.out e1.symm)).trans HS0.out.2.2.1,(World.cell?_setCell_other _ _ _ _ (fun e=>by injection e with e1;omega)).trans HS0.out.2.2.2⟩,?_⟩
   clear hK K
   refine wpAnyH_done (by kernel_rfl) ?_ _
   gi_wp2
   refine ⟨by simp,.inl ⟨_,_,rfl,run_takeDeferred (show ((W.setCell ⟨w.heap.size+1,0,none⟩ (.bool false)).drew).heap[D]? = some (.deferred (some [])) from HDF.out W.drew false HBZ.out),?_⟩⟩
   obtain ⟨f4,f5,f6⟩:=FIN.out W.drew false HBZ.out HRS.out
   have f4':((W.setCell ⟨w.heap.size+1,0,none⟩ (.bool false)).drew.putObj D (.deferred none)).cell? ⟨w.heap.size+1,0,none⟩=some (.bool false):=f4
   exact ⟨.bool false,by simp [results,Tryz.results43,go_sem,f4'],by rw [←HRS.out],f5,f6⟩
 case stop =>
  rintro D cd xs W hD hSp ⟨rfl,pre,x,rfl,hbad,hc1,hkp,hzz⟩ hK
  obtain ⟨f1,f2⟩:=one_cellJ hc1
  have HB:Hid (baseOf b=none):=Lib.hid (baseOf_bad hbad hSp)
  have HKP:=Lib.hid hkp;have HC1:=Lib.hid hc1
  clear hbad hSp hkp hc1
  gi_wp2
  refine ⟨by simp,.inl ⟨_,_,rfl,run_takeDeferred hK,?_⟩⟩
  have f3:(W.putObj D (.deferred none)).heap[w.heap.size+1]? = some (.cells #[.bool false] 4 (0,0)):=(World.putObj_heap_other (by omega)).trans HC1.out
  obtain ⟨f4,-⟩:=one_cellJ f3
  refine ⟨.bool false,by simp [results,Tryz.results43,go_sem,f4],by rw [HB.out];rfl,HKP.out.grown (grownBy_putObj' W D (.deferred none)) (fun k e=>by cases e;exact .inr (by omega)),fun g ps e=>by rw [HB.out] at e;cases e⟩
end Go.Proofs.YtaalbcfpacpgfaaGreat
