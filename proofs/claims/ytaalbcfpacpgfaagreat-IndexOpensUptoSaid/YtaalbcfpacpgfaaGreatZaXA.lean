/- Merged of TX X1 X2 X3 X4 X5 X9 X10 X11. -/
import Derived.StillTailTactics
import Derived.Test.YtaalbcfpacpgfaaGreatZaTA
set_option linter.unusedVariables false
set_option linter.unusedSimpArgs false
namespace Go.Proofs.YtaalbcfpacpgfaaGreat
open Go.RowKit Go.Lib Go.Vfs Go.Par Go.Typ Go.Shelf
theorem byteInfo:∃ i,Tryz.prog.info? 5=some i∧i.zero=some (.int .u8 0)∧i.size=1∧i.bytes=1:=by
 have h:(Tryz.prog.info? 5).map (fun i=>(i.zero,i.size,i.bytes))=some (some (.int .u8 0),1,1):=by kernel_rfl
 exact info_parts h
end Go.Proofs.YtaalbcfpacpgfaaGreat
namespace Go.Typ
def FitAll (T:Ty):Prop:=∀ x∈T.list,fitsT x=true
theorem mem_listL {x a:Ty}:∀ {ts:List Ty},a∈ts→x∈a.list→x∈listL ts
 | t :: ts,ha,hx=>by
  rw [listL]
  rcases List.mem_cons.1 ha with rfl|ha
  ·exact List.mem_append_left _ hx
  ·exact List.mem_append_right _ (mem_listL ha hx)
theorem FitAll.arg {T:Ty} (h:FitAll T) {i:Nat} (hi:i < T.args.length):FitAll T.args[i]:=fun x hx=>h x (by
 rw [T.list_eq]
 exact List.mem_cons_of_mem _ (mem_listL (List.getElem_mem hi) hx))
theorem FitAll.self {T:Ty} (h:FitAll T):fitsT T=true:=h T (by rw [T.list_eq];exact List.mem_cons_self)
theorem rightT_iff {T:Ty}:rightT T=true↔T.parts≤300∧FitAll T:=by
 unfold rightT FitAll
 rw [Bool.and_eq_true,decide_eq_true_iff,List.all_eq_true]
theorem fits_kinds {T:Ty} (h:fitsT T=true):(T.kind=1∧0≤T.num∧T.num < 1073741824∧T.name.toList=[]∧T.args.length=0)∨(T.kind=2∧T.num=0∧nameOk T.name.data.toList=true) ∨
  (T.kind=3∧T.num=0∧T.name.toList=[]∧2≤T.args.length)∨(T.kind=4∧T.num=0∧T.name.toList=[]∧T.args.length=2):=by
 unfold fitsT at h
 simp only [Bool.or_eq_true,Bool.and_eq_true,decide_eq_true_iff] at h
 rcases h with ((⟨h1,⟨⟨⟨h2,h3⟩,h4⟩,h5⟩⟩|⟨h1,h2,h3⟩)|⟨h1,⟨h2,h3⟩,h4⟩)|⟨h1,⟨h2,h3⟩,h4⟩
 ·exact .inl ⟨h1,h2,h3,h4,h5⟩
 ·exact .inr (.inl ⟨h1,h2,h3⟩)
 ·exact .inr (.inr (.inl ⟨h1,h2,h3,h4⟩))
 ·exact .inr (.inr (.inr ⟨h1,h2,h3,h4⟩))
end Go.Typ
namespace Go.Par
open Go Go.RowKit
section
variable {P:Program} {ops:Array Oper} {Q:Exit→Act→World→Prop}
theorem wpOp_ofQ {i:Nat} {o:Oper} {K:Act→World→Prop} {a:Act} {w:World} (ho:ops[i]? = some o) (hw:Region.wanted o (yielded ops a.tmps)=true) (h:∀ K':Act→World→Prop,(∀ a w,K a w→K' a w)→o.wp P a w K' Q):wpOp P ops Q i K a w:=by
 unfold wpOp
 simp only [ho,hw,if_true]
 exact .inl (h _ fun _ _ h=>h)
theorem takeD {S:World→Prop} {md:Region.Mode} {i s:Nat} {oi:Oper} {v:Value} {fuel:Nat} {listed:Array Bool} {a:Act} {w:World} (hi:ops[i]? = some oi) (hd:oi.dst=some s)
  (hs:Region.noSelect ops=true) (hf:Region.free md ops listed i=true) (hr:(Region.ready md ops listed).contains i=true)
  (hQ:∀ c a w,Q (.panic c) (a.put oi.dst v) w→Q (.panic c) a w) (hy:YieldsIf P ops S oi v a) (hS:S w)
  (h:wpAnyH P md ops Q S fuel (listed.setIfInBounds i true) { tmps:=a.tmps.setIfInBounds s v,defers:=a.defers } w):wpAnyH P md ops Q S (fuel+1) listed a w :=
 wpAnyH_take hi hs hf hr hQ hy hS (by rw [hd];exact h)
end
end Go.Par
namespace Go.Proofs.YtaalbcfpacpgfaaGreat
open Go.RowKit Go.Lib Go.Vfs Go.Par Go.Typ Go.Shelf
theorem end4 {W:World} {r:Nat} {u0 u1 u2 u3:Value} (v0 v1 v2 v3:Value) {t:TypeId} (hr:W.heap[r]? = some (.cells #[u0,u1,u2,u3] t (0,0))) :
  ∃ Wf,Wf=((((W.setCell ⟨r,0,none⟩ v0).setCell ⟨r,1,none⟩ v1).setCell ⟨r,2,none⟩ v2).setCell ⟨r,3,none⟩ v3)∧Wf.heap[r]? = some (.cells #[v0,v1,v2,v3] t (0,0))∧Kept (· = r) W Wf :=
 ⟨_,rfl,put4 hr,kept4 (Kept.refl _ _) (.inl rfl)⟩
def zero4:Obj:=.cells #[.int .i64 0,.int .i64 0,.string ⟨#[]⟩,.slice none 0 0] 61 (0,0)
theorem TyAt.leaf (S:Nat→Prop) (W:World) (k num:Int) (name:ByteArray) (A:Option Addr) (c:Nat) (hc:c≤maxLen) (hn:name.size≤9223372036854775807):TyAt S W (tyV k num name A 0 c) (.mk k num name []) :=
 .mk k num name [] A c (fun _=>.bool false) (by simp) hc hn (fun h=>by simp at h) (fun i h=>by simp at h)
end Go.Proofs.YtaalbcfpacpgfaaGreat
namespace Go.Typ
open Go.RowKit Go.Lib Go.Vfs Go.Par
section
variable {α:Type} {e k:Nat} {R:(Nat→Prop)→World→Value→α→Prop} {L B:Nat} {w w' w2 w3:World} {xs:List α} {v v':Value} {us:List Value}
theorem RowK.above (hK:∀ {S S':Nat→Prop} {w w':World} {v:Value} {x:α},R S w v x→(∀ b,S b→S' b∧w'.heap[b]? = w.heap[b]?)→R S' w' v x)
  (h:RowK e k R L B w xs v us) {Lo:Nat} (hL:Lo≤L) (hB:Lo≤B) (hb:∀ g,Lo≤g→g < w.heap.size→w'.heap[g]? = w.heap[g]?) (hz:w.heap.size≤w'.heap.size):RowK e k R L B w' xs v us :=
 ⟨h.len,ownsRow_block h.own fun g e=>hb g (by have:=(h.own.lt g e).1;omega) (h.own.lt g e).2,h.size,fun i hi=>hK (h.each i hi) fun b hk=>⟨⟨hk.1,by omega,hk.2.2⟩,hb b (by omega) hk.2.1⟩⟩
end
end Go.Typ
namespace Go.Proofs.YtaalbcfpacpgfaaGreat
open Go.RowKit Go.Lib Go.Vfs Go.Par Go.Typ Go.Shelf
theorem below_of_kept {p B:Nat} {w W:World} (h:Kept (fun x=>x=p) w W) (hp:B≤p) (hB:B≤w.heap.size):Below B w W :=
 ⟨h.os,h.tape,h.output,h.size,fun g hg=>h.block g (by omega) (by omega)⟩
end Go.Proofs.YtaalbcfpacpgfaaGreat
namespace Go.Typ
open Go.RowKit Go.Lib Go.Vfs Go.Par
theorem box1 {W:World} {b:Nat} {v:Value} {t:TypeId} (h:W.heap[b]? = some (.cells #[v] t (0,0))):W.cell? ⟨b,0,none⟩=some v:=by simp [World.cell?,h]
theorem partsL_step {ts:List Ty} {k:Nat} (hk:k < ts.length):partsL (ts.drop k)=ts[k].parts+partsL (ts.drop (k+1)):=by
 rw [List.drop_eq_getElem_cons hk,partsL]
end Go.Typ
namespace Go.Proofs.YtaalbcfpacpgfaaGreat
open Go.RowKit Go.Lib Go.Vfs Go.Par Go.Typ Go.Shelf
theorem below_drewNQ {B:Nat} {a b:World} (h:Below B a b) (n:Nat):Below B a (b.drewN n):=⟨h.os,h.tape,h.output,h.size,h.block⟩
def Gr (w w':World) (v v':Value):Prop:=w.grownBy w' v.ownBlock∧(v'.ownBlock=v.ownBlock∨∀ g,v'.ownBlock=some g→w.heap.size≤g)
theorem Gr.refl (w:World) (v:Value):Gr w w v v:=⟨World.grownBy.refl w _,.inl rfl⟩
theorem Gr.block {w w':World} {v v':Value} (h:Gr w w' v v') {g:Nat} (hg:g < w.heap.size) (hn:v.ownBlock≠some g):w'.heap[g]? = w.heap[g]?:=h.1.block g hg (fun e=>hn e.symm)
theorem Gr.trans {w w1 w2:World} {v v1 v2:Value} (h:Gr w w1 v v1) (k:Gr w1 w2 v1 v2):Gr w w2 v v2:=by
 have hs:=h.1.size
 refine ⟨⟨k.1.os.trans h.1.os,k.1.tape.trans h.1.tape,k.1.output.trans h.1.output,Nat.le_trans h.1.size k.1.size,fun g hg hn=>?_⟩,?_⟩
 ·refine (k.block (by omega) (fun e=>?_)).trans (h.1.block g hg hn)
  rcases h.2 with h2|h2
  ·rw [h2] at e;exact hn e.symm
  ·have:=h2 g e;omega
 ·rcases k.2 with k2 | k2
  ·rcases h.2 with h2 | h2
   ·exact .inl (k2.trans h2)
   ·exact .inr fun g e=>h2 g (by rw [←k2];exact e)
  ·exact .inr fun g e=>by have:=k2 g e;omega
theorem Gr.of_below {w w':World} (h:Below w.heap.size w w') (v:Value):Gr w w' v v:=⟨⟨h.os,h.tape,h.output,h.size,fun g hg _=>h.block g hg⟩,.inl rfl⟩
theorem Gr.app {w w':World} {v v':Value} {o:Obj} (hg:(w.alloc o).grownBy w' v.ownBlock) (hat:v'.ownBlock=v.ownBlock∨v'.ownBlock=some (w.alloc o).heap.size):Gr w w' v v':=by
 have h0:Below w.heap.size w (w.alloc o):=(Below.refl _ _).alloc (Nat.le_refl _) _
 refine (Gr.of_below h0 v).trans ⟨hg,?_⟩
 rcases hat with h|h
 ·exact .inl h
 ·exact .inr fun g e=>by rw [h] at e;injection e with e;omega
theorem Gr.below {B:Nat} {w w':World} {v v':Value} (h:Gr w w' v v') (hB:B≤w.heap.size) (hv:∀ g,v.ownBlock=some g→B≤g):Below B w w' :=
 ⟨h.1.os,h.1.tape,h.1.output,h.1.size,fun g hg=>h.block (by omega) (fun e=>by have:=hv g e;omega)⟩
end Go.Proofs.YtaalbcfpacpgfaaGreat
namespace Go.Typ
open Go.RowKit Go.Lib Go.Vfs Go.Par
structure Ex where
 name:ByteArray
 ty:Ty
theorem Ex.ext' {x y:Ex} (h1:x.name=y.name) (h2:x.ty=y.ty):x=y:=by cases x;cases y;simp_all
def exV (x:Ex) (A:Option Addr) (c:Nat):Value:=.agg #[.string x.name,.int .i64 x.ty.kind,.int .i64 x.ty.num,.string x.ty.name,.slice A x.ty.args.length c]
def ExAt (S:Nat→Prop) (W:World) (v:Value) (x:Ex):Prop:=∃ A c,v=exV x A c∧x.name.size≤9223372036854775807∧TyAt S W (tyV x.ty.kind x.ty.num x.ty.name A x.ty.args.length c) x.ty
theorem ExAt.keep {S S':Nat→Prop} {w w':World} {v:Value} {x:Ex} (h:ExAt S w v x) (hk:∀ b,S b→S' b∧w'.heap[b]? = w.heap[b]?):ExAt S' w' v x:=by
 obtain ⟨A,c,e,hn,ht⟩:=h;exact ⟨A,c,e,hn,ht.keep hk⟩
def ExsAt (S:Nat→Prop) (W:World) (v:Value) (xs:List Ex):Prop :=
 ∃ A c,v=.slice A xs.length c∧xs.length≤c∧c≤maxLen∧∃ vs:Nat→Value,
  (0 < xs.length→∃ b off,A=some ⟨b,off,none⟩∧S b∧∀ i,i < xs.length→∀ j,j < 5→W.cell? ⟨b,off+i * 5+j,none⟩=some (fld (vs i) j))∧∀ i (h:i < xs.length),ExAt S W (vs i) xs[i]
section
variable {S S':Nat→Prop} {W W':World} {v:Value} {xs:List Ex}
theorem ExsAt.keep (h:ExsAt S W v xs) (hk:∀ b,S b→S' b∧W'.heap[b]? = W.heap[b]?):ExsAt S' W' v xs:=by
 obtain ⟨A,c,e,h1,h2,vs,h3,h4⟩:=h
 refine ⟨A,c,e,h1,h2,vs,fun h0=>?_,fun i hi=>(h4 i hi).keep hk⟩
 obtain ⟨b,off,e,hb,hat⟩:=h3 h0
 exact ⟨b,off,e,(hk b hb).1,fun i hi j hj=>by rw [World.cell?_of_block (w:=W) (a:=⟨b,_,none⟩) (hk b hb).2];exact hat i hi j hj⟩
theorem ExsAt.sub (h:ExsAt S W v xs) (hS:∀ b,S b→S' b):ExsAt S' W v xs:=h.keep fun b hb=>⟨hS b hb,rfl⟩
theorem ExsAt.blw (h:ExsAt (· < W.heap.size) W v xs) (hb:Below W.heap.size W W'):ExsAt (· < W'.heap.size) W' v xs :=
 h.keep fun b hk=>⟨Nat.lt_of_lt_of_le hk hb.size,hb.block b hk⟩
theorem ExsAt.form (h:ExsAt S W v xs):∃ A c,v=.slice A xs.length c∧xs.length≤c∧c≤maxLen:=by
 obtain ⟨A,c,e,h1,h2,_⟩:=h;exact ⟨A,c,e,h1,h2⟩
theorem ExsAt.arg {A:Option Addr} {n c:Nat} (h:ExsAt S W (.slice A n c) xs) {i:Nat} (hi:i < xs.length) :
  ∃ b off A' c',A=some ⟨b,off,none⟩∧S b∧xs[i].name.size≤9223372036854775807∧TyAt S W (tyV xs[i].ty.kind xs[i].ty.num xs[i].ty.name A' xs[i].ty.args.length c') xs[i].ty ∧
   W.cell? ⟨b,off+i * 5,none⟩=some (.string xs[i].name)∧W.cell? ⟨b,off+i * 5+1,none⟩=some (.int .i64 xs[i].ty.kind)∧W.cell? ⟨b,off+i * 5+2,none⟩=some (.int .i64 xs[i].ty.num) ∧
   W.cell? ⟨b,off+i * 5+3,none⟩=some (.string xs[i].ty.name)∧W.cell? ⟨b,off+i * 5+4,none⟩=some (.slice A' xs[i].ty.args.length c'):=by
 obtain ⟨A0,c0,e,h1,h2,vs,h3,h4⟩:=h
 injection e with e1 e2 e3
 subst e1 e2 e3
 obtain ⟨b,off,e,hb,hat⟩:=h3 (by omega)
 obtain ⟨A',c',ev,hn,ht⟩:=h4 i hi
 have g0:=hat i hi 0 (by omega)
 have g1:=hat i hi 1 (by omega)
 have g2:=hat i hi 2 (by omega)
 have g3:=hat i hi 3 (by omega)
 have g4:=hat i hi 4 (by omega)
 rw [ev] at g0 g1 g2 g3 g4
 exact ⟨b,off,A',c',e,hb,hn,ht,g0,g1,g2,g3,g4⟩
theorem ExsAt.nil (S:Nat→Prop) (W:World) (A:Option Addr) (c:Nat) (hc:c≤maxLen):ExsAt S W (.slice A 0 c) [] :=
 ⟨A,c,rfl,Nat.zero_le _,hc,fun _=>.bool false,fun h=>by simp at h,fun i h=>by simp at h⟩
theorem RowK.exs {e L B:Nat} {w:World} {us:List Value} (h:RowK e 5 ExAt L B w xs v us):ExsAt (fun g=>(L≤g∨B≤g)∧g < w.heap.size) w v xs:=by
 obtain ⟨A,c,rfl,hc,hm⟩:=h.form
 refine ⟨A,c,rfl,hc,hm,fun i=>us.getD i (.bool false),fun h0=>?_,fun i hi=>ExAt.keep (h.each i hi) fun g hg=>⟨⟨.inl hg.1,hg.2.1⟩,rfl⟩⟩
 obtain ⟨g,c',e,hb,hlt,hat⟩:=h.cells h0
 injection e with e1 _ _
 refine ⟨g,0,e1,⟨.inr hb,hlt⟩,fun i hi j hj=>?_⟩
 rw [hat i hi j hj]
 show _=some (fld (us.getD i (.bool false)) j)
 obtain ⟨A',c',e,_⟩:=h.each i hi
 rw [e]
 have:j=0∨j=1∨j=2∨j=3∨j=4:=by omega
 rcases this with rfl|rfl|rfl|rfl|rfl <;> rfl
end
theorem box5 {W:World} {b:Nat} {v0 v1 v2 v3 v4:Value} {t:TypeId} (h:W.heap[b]? = some (.cells #[v0,v1,v2,v3,v4] t (0,0))) :
  (W.cell? ⟨b,0,none⟩=some v0∧W.cell? ⟨b,1,none⟩=some v1∧W.cell? ⟨b,2,none⟩=some v2∧W.cell? ⟨b,3,none⟩=some v3∧W.cell? ⟨b,4,none⟩=some v4):=by
 simp [World.cell?,h]
theorem box5_frozen {W:World} {b:Nat} {v0 v1 v2 v3 v4:Value} {t:TypeId} (h:W.heap[b]? = some (.cells #[v0,v1,v2,v3,v4] t (0,0))) :
  (W.frozen? ⟨b,0,none⟩=false∧W.frozen? ⟨b,1,none⟩=false∧W.frozen? ⟨b,2,none⟩=false∧W.frozen? ⟨b,3,none⟩=false∧W.frozen? ⟨b,4,none⟩=false):=by
 simp [World.frozen?,h]
def CellI (W:World) (q:Nat) (t:TypeId) (m:Int):Prop:=W.heap[q]? = some (.cells #[.int .i64 m] t (0,0))
theorem CellI.keep {W W':World} {q:Nat} {t:TypeId} {m:Int} (h:CellI W q t m) (hk:W'.heap[q]? = W.heap[q]?):CellI W' q t m:=hk.trans h
theorem CellI.lt {W:World} {q:Nat} {t:TypeId} {m:Int} (h:CellI W q t m):q < W.heap.size:=lt_blk h
theorem CellI.cell {W:World} {q:Nat} {t:TypeId} {m:Int} (h:CellI W q t m):W.cell? ⟨q,0,none⟩=some (.int .i64 m):=box1 h
theorem CellI.free {W:World} {q:Nat} {t:TypeId} {m:Int} (h:CellI W q t m):W.frozen? ⟨q,0,none⟩=false:=by
 have h:W.heap[q]? = some (.cells #[.int .i64 m] t (0,0)):=h
 simp [World.frozen?,h]
theorem CellI.put {W:World} {q:Nat} {t:TypeId} {m:Int} (h:CellI W q t m) (m':Int):CellI (W.setCell ⟨q,0,none⟩ (.int .i64 m')) q t m':=by
 have:=cells_put (i:=0) (x:=.int .i64 m') h
 simpa [CellI] using this
mutual
def risT:Ty→Int→Bool × Int
 | .mk k n _ ts,m=>if k=1 then (if n=m then (true,m+1) else (decide (n < m),m)) else risL ts m
def risL:List Ty→Int→Bool × Int
 | [],m=>(true,m)
 | t :: ts,m=>if (risT t m).1=true then risL ts (risT t m).2 else (false,(risT t m).2)
end
theorem risT_eq (T:Ty) (m:Int):risT T m=if T.kind=1 then (if T.num=m then (true,m+1) else (decide (T.num < m),m)) else risL T.args m:=by
 obtain ⟨k,n,s,ts⟩:=T;rw [risT];rfl
theorem risL_step {ts:List Ty} {k:Nat} (hk:k < ts.length) (m:Int):risL (ts.drop k) m=if (risT ts[k] m).1=true then risL (ts.drop (k+1)) (risT ts[k] m).2 else (false,(risT ts[k] m).2):=by
 rw [List.drop_eq_getElem_cons hk,risL]
theorem risT_le (T:Ty):∀ m:Int,m≤(risT T m).2∧(risT T m).2≤m+T.parts:=by
 induction T using Ty.ind with
 | h T ih =>
  intro m
  rw [risT_eq]
  have hp:=T.parts_pos
  split
  ·split
   ·simp only;omega
   ·simp only;omega
  ·have key:∀ ts:List Ty,(∀ t∈ts,∀ m:Int,m≤(risT t m).2∧(risT t m).2≤m+t.parts)→∀ m:Int,m≤(risL ts m).2∧(risL ts m).2≤m+partsL ts:=by
    intro ts
    induction ts with
    | nil=>intro _ m;rw [risL,partsL];simp
    | cons t ts ih2 =>
     intro h m
     rw [risL,partsL]
     have h1:=h t (by simp) m
     have h2:=ih2 (fun x hx=>h x (by simp [hx])) (risT t m).2
     split
     ·push_cast;omega
     ·simp only;push_cast;omega
   have:=key T.args (fun t ht=>by obtain ⟨i,hi,rfl⟩:=List.getElem_of_mem ht;exact ih i hi) m
   have:=T.parts_eq
   omega
mutual
def shortT:Ty→Bool
 | .mk _ _ s ts=>decide (s.size≤255) && (decide (ts.length≤255) && shortL ts)
def shortL:List Ty→Bool
 | []=>true
 | t :: ts=>shortT t && shortL ts
end
theorem shortT_eq (T:Ty):shortT T=(decide (T.name.size≤255) && (decide (T.args.length≤255) && shortL T.args)):=by
 obtain ⟨k,n,s,ts⟩:=T;rw [shortT];rfl
theorem shortL_step {ts:List Ty} {k:Nat} (hk:k < ts.length):shortL (ts.drop k)=(shortT ts[k] && shortL (ts.drop (k+1))):=by
 rw [List.drop_eq_getElem_cons hk,shortL]
end Go.Typ
namespace Go.Proofs.YtaalbcfpacpgfaaGreat
open Go.RowKit Go.Lib Go.Vfs Go.Par Go.Typ Go.Shelf
set_option maxRecDepth 20000 in
set_option maxHeartbeats 2000000 in
theorem rising_any (q:Nat) (T:Ty):∀ (m:Int) (v:Value) (w:World),CellI w q 3 m→TyAt (fun g=>g < w.heap.size∧g≠q) w v T→0≤m→m+T.parts≤1099511627776 →
  Calls Tryz.prog 158 #[v,.pointer (some ⟨q,0,none⟩)] w fun e w'=>e=.returned (.bool (risT T m).1)∧CellI w' q 3 (risT T m).2∧Kept (· = q) w w':=by
 induction T using Ty.ind with
 | h T ih =>
  intro m v w hq hT h0 hp
  have IH:=Lib.hid ih
  clear ih
  obtain ⟨A,c,rfl,hc,hm,hn⟩:=hT.form
  have hql:=hq.lt
  have hla:T.args.length≤1099511627776:=by have:=length_parts T.args;have:=T.parts_eq;omega
  obtain ⟨W1,hW1⟩:∃ W1,W1=w.alloc (.cells #[.int .i64 T.kind,.int .i64 T.num,.string T.name,.slice A T.args.length c] 61):=⟨_,rfl⟩
  have hb1:Below w.heap.size w W1:=by rw [hW1];exact (Below.refl _ _).alloc (Nat.le_refl _) _
  have hbx:W1.heap[w.heap.size]? = some (.cells #[.int .i64 T.kind,.int .i64 T.num,.string T.name,.slice A T.args.length c] 61 (0,0)):=by rw [hW1];exact heap_alloc_new _ _
  have hz1:W1.heap.size=w.heap.size+1:=by rw [hW1];simp
  have hq1:=hq.keep (hb1.block q hql)
  have hT1:TyAt (fun g=>g < w.heap.size∧g≠q) W1 (tyV T.kind T.num T.name A T.args.length c) T:=hT.keep fun g hg=>⟨hg,hb1.block g hg.1⟩
  have HBX:=Lib.hid hbx;have HP:=Lib.hid hp;have HZ1:=Lib.hid hz1;have HT1:=Lib.hid hT1;have HB1:=Lib.hid hb1;have HQ1:=Lib.hid hq1;have HQL:=Lib.hid hql
  obtain ⟨y0,y1,y2,y3⟩:=box4 hbx
  have c0:=hq1.cell
  have f0:=hq1.free
  have hpp:=T.parts_pos
  have hmb:m≤1099511627776:=by omega
  clear hT hq hbx hp hT1 hq1 hb1 hz1 hql hc hm hn hpp
  unfold tyV
  by_cases k1:T.kind=1
  ·have h1:(T.kind == 1)=true:=by simp [k1]
   have K1:=Lib.hid k1
   rw [k1] at h1 hW1 y0 ⊢
   rw [hW1] at y0 y1 y2 y3 c0 f0
   by_cases e:T.num=m
   ·have hr:risT T m=(true,m+1):=by rw [risT_eq,if_pos k1,if_pos e]
    have h2:(T.num == m)=true:=by simp [e]
    have hlt:T.num < m+1:=by omega
    rw [hr]
    clear hr k1 e
    go_enter Tryz.func158,Tryz.ntmps158
    go_wp2_with fail
    go_quiet (fail)
    rw [←hW1]
    clear hW1 y0 y1 y2 y3 c0 f0
    obtain ⟨W2,hW2⟩:∃ W2,W2=W1.drewN nq:=⟨_,rfl⟩
    have hh:W2.heap=W1.heap:=by rw [hW2];rfl
    rw [←hW2]
    have hq2:CellI W2 q 3 m:=HQ1.out.keep (by rw [hh])
    obtain ⟨W3,hW3⟩:∃ W3,W3=W2.setCell ⟨q,0,none⟩ (.int .i64 (m+1)):=⟨_,rfl⟩
    have hq3:CellI W3 q 3 (m+1):=by rw [hW3];exact hq2.put _
    have hk3:Kept (· = q) w W3:=by
     rw [hW3]
     refine Kept.setCell (F:=(· = q)) (p:=⟨q,0,none⟩) ?_ (.inl rfl) _
     rw [hW2]
     exact (Kept.of_below HB1.out).drewN _
    have hb3:W3.heap[w.heap.size]? = some (.cells #[.int .i64 T.kind,.int .i64 T.num,.string T.name,.slice A T.args.length c] 61 (0,0)):=by
     rw [hW3,Below.heap_setCell _ _ _ _ (by have:=HQL.out;show w.heap.size≠q;omega),hh]
     exact HBX.out
    obtain ⟨x0,x1,x2,x3⟩:=box4 hb3
    have c2:=hq2.cell
    have f2:=hq2.free
    have c3:=hq3.cell
    rw [hW3] at x0 x1 x2 x3 c3
    have HE:Hid (CellI W3 q 3 (m+1)∧Kept (· = q) w W3):=Lib.hid ⟨hq3,hk3⟩
    clear hq2 hq3 hk3 hb3 hh hW2
    go_wp2_with fail
    go_quiet (fail)
    rw [←hW3]
    go_wp2
    go_ret
    exact ⟨rfl,HE.out.1,HE.out.2.drewN _⟩
   ·have hr:risT T m=(decide (T.num < m),m):=by rw [risT_eq,if_pos k1,if_neg e]
    have h2:(T.num == m)=false:=by simp [e]
    rw [hr]
    clear hr k1 e
    go_enter Tryz.func158,Tryz.ntmps158
    go_wp2_with fail
    go_quiet (fail)
    rw [←hW1]
    clear hW1 y0 y1 y2 y3 c0 f0
    obtain ⟨W2,hW2⟩:∃ W2,W2=W1.drewN nq:=⟨_,rfl⟩
    have hh:W2.heap=W1.heap:=by rw [hW2];rfl
    rw [←hW2]
    have hq2:CellI W2 q 3 m:=HQ1.out.keep (by rw [hh])
    have hb2:W2.heap[w.heap.size]? = some (.cells #[.int .i64 T.kind,.int .i64 T.num,.string T.name,.slice A T.args.length c] 61 (0,0)):=by
     rw [hh];exact HBX.out
    obtain ⟨x0,x1,x2,x3⟩:=box4 hb2
    have c2:=hq2.cell
    have HE:Hid (CellI W2 q 3 m∧Kept (· = q) w W2):=Lib.hid ⟨hq2,by rw [hW2];exact (Kept.of_below HB1.out).drewN _⟩
    clear hq2 hb2 hh hW2
    go_wp2_with fail
    go_quiet (fail)
    go_wp2
    go_ret
    exact ⟨rfl,HE.out.1,HE.out.2.drewN _⟩
  ·have h1:(T.kind == 1)=false:=by simp [k1]
   have hr:risT T m=risL T.args m:=by rw [risT_eq,if_neg k1]
   rw [hr]
   rw [hW1] at y0 y1 y2 y3 c0 f0
   clear hr k1
   go_enter Tryz.func158,Tryz.ntmps158
   go_wp2
   rw [←hW1]
   clear hW1 y0 y1 y2 y3 c0 f0 h1
   go_loopw [30] (fun iv W=>∃ (k:Nat) (mt:Int),k≤T.args.length∧iv=.int .i64 k∧Hid (CellI W q 3 mt)∧Hid (risL (T.args.drop k) mt=risL T.args m)∧Hid (0≤mt∧mt+partsL (T.args.drop k)≤m+partsL T.args)∧Hid (Kept (· = q) W1 W)) (fun iv _=>T.args.length - (RowKit.intOf iv).toNat)
   case atStart=>exact ⟨0,m,by omega,rfl,HQ1,Lib.hid (by rw [List.drop_zero]),Lib.hid ⟨h0,by rw [List.drop_zero];exact Int.le_refl _⟩,Lib.hid (Kept.refl _ _)⟩
   case round =>
    obtain ⟨k,mt,hk,rfl,HQ,HST,HLE,HKR⟩:=hrel
    have hz1:=HZ1.out
    have hql:=HQL.out
    have hzr:=HKR.out.size
    by_cases hlt:k < T.args.length
    ·have hTr:=HT1.out.keep (S':=fun g=>g < w.heap.size∧g≠q) (W':=wr) fun g hg=>⟨hg,HKR.out.block g (by omega) hg.2⟩
     obtain ⟨b,off,A',c',rfl,hb,ht,x0,x1,x2,x3⟩:=hTr.arg hlt
     have hst:=HST.out
     rw [risL_step hlt] at hst
     have hps:=partsL_step hlt
     have hrl:=risT_le T.args[k] mt
     obtain ⟨W2,hW2⟩:∃ W2,W2=wr.alloc (.cells #[.int .i64 T.args[k].kind,.int .i64 T.args[k].num,.string T.args[k].name,.slice A' T.args[k].args.length c'] 61):=⟨_,rfl⟩
     have hb2:Below wr.heap.size wr W2:=by rw [hW2];exact (Below.refl _ _).alloc (Nat.le_refl _) _
     have hz2:=hb2.size
     have hle:=HLE.out
     have hca:=IH.out k hlt mt _ W2 (HQ.out.keep (hb2.block q (by omega))) (ht.keep fun g hg=>⟨⟨by omega,hg.2⟩,hb2.block g (by omega)⟩) hle.1 (by have:=HP.out;have:=T.parts_eq;omega)
     obtain ⟨z0,z1,z2,z3⟩:=box4 (show W2.heap[wr.heap.size]? = some (.cells #[.int .i64 T.args[k].kind,.int .i64 T.args[k].num,.string T.args[k].name,.slice A' T.args[k].args.length c'] 61 (0,0)) by rw [hW2];exact heap_alloc_new _ _)
     have HNX:Hid ((risT T.args[k] mt).1=true→risL (T.args.drop (k+1)) (risT T.args[k] mt).2=risL T.args m):=Lib.hid fun h=>by rw [if_pos h] at hst;exact hst
     have HNF:Hid ((risT T.args[k] mt).1=false→(false,(risT T.args[k] mt).2)=risL T.args m):=Lib.hid fun h=>by rw [if_neg (by rw [h];decide)] at hst;exact hst
     have HLX:Hid (0≤(risT T.args[k] mt).2∧(risT T.args[k] mt).2+partsL (T.args.drop (k+1))≤m+partsL T.args):=Lib.hid (by omega)
     have HK2:Hid (Kept (· = q) W1 W2):=Lib.hid (HKR.out.trans' (Kept.of_below hb2))
     clear ht hTr hst hps hrl hle
     generalize risT T.args[k] mt=U at *
     generalize T.args[k]=V at *
     obtain ⟨r,mt2⟩:=U
     simp only at hca HNX HNF HLX
     unfold tyV at hca
     have HCA:=Lib.hid hca
     rw [hW2] at z0 z1 z2 z3
     clear hca hb2 hz2
     go_wp2_with fail
     rw [←hW2]
     clear hW2 z0 z1 z2 z3
     refine HCA.out.mono ?_
     rintro e w3 ⟨rfl,hq3,hk3⟩
     have HQ3:=Lib.hid hq3
     have HK3:=Lib.hid (HK2.out.trans' hk3)
     clear hq3 hk3
     cases r with
     | false =>
      have HN:=Lib.hid (HNF.out rfl)
      clear HNF HNX
      go_wp2
      go_ret
      rw [←HN.out]
      exact ⟨rfl,HQ3.out,(Kept.of_below HB1.out).trans' HK3.out⟩
     | true =>
      have HN:=Lib.hid (HNX.out rfl)
      clear HNF HNX
      go_wp2
      go_roundw
      case rel=>exact ⟨k+1,mt2,by omega,by go_num,HQ3,HN,HLX,HK3⟩
      case measure=>simp [RowKit.intOf];omega
    ·have hkl:k=T.args.length:=by omega
     have hst:=HST.out
     rw [hkl,List.drop_length,risL] at hst
     have HE:=Lib.hid hst
     clear hst
     go_wp2
     go_ret
     rw [←HE.out]
     exact ⟨rfl,HQ.out,(Kept.of_below HB1.out).trans' HKR.out⟩
def closedT (T:Ty):Bool:=rightT T && (risT T 0).1
set_option maxRecDepth 20000 in
set_option maxHeartbeats 1000000 in
theorem closed_any (T:Ty) (v:Value) (w:World) (hT:TyAt (· < w.heap.size) w v T):Calls Tryz.prog 146 #[v] w fun e w'=>e=.returned (.bool (closedT T))∧Below w.heap.size w w':=by
 obtain ⟨A,c,rfl,hc,hm,hn⟩:=hT.form
 obtain ⟨W1,hW1⟩:∃ W1,W1=w.alloc (.cells #[.int .i64 T.kind,.int .i64 T.num,.string T.name,.slice A T.args.length c] 61):=⟨_,rfl⟩
 have hb1:Below w.heap.size w W1:=by rw [hW1];exact (Below.refl _ _).alloc (Nat.le_refl _) _
 have hbx:W1.heap[w.heap.size]? = some (.cells #[.int .i64 T.kind,.int .i64 T.num,.string T.name,.slice A T.args.length c] 61 (0,0)):=by rw [hW1];exact heap_alloc_new _ _
 have hT1:=hT.blw hb1
 have HRI:=Lib.hid (right_any T _ W1 hT1)
 have HBX:=Lib.hid hbx;have HT1:=Lib.hid hT1;have HB1:=Lib.hid hb1
 obtain ⟨y0,y1,y2,y3⟩:=box4 hbx
 rw [hW1] at y0 y1 y2 y3
 clear hT hT1 hbx hb1 hc hm hn
 unfold tyV at HRI ⊢
 go_enter Tryz.func146,Tryz.ntmps146
 go_wp2_with fail
 rw [←hW1]
 clear hW1 y0 y1 y2 y3
 refine HRI.out.mono ?_
 rintro e w2 ⟨rfl,hb2⟩
 have HB2:Hid (Below w.heap.size w w2):=Lib.hid (HB1.out.trans (hb2.mono HB1.out.size))
 cases hr:rightT T with
 | false =>
  have HR:Hid (closedT T=false):=Lib.hid (by unfold closedT;rw [hr];rfl)
  clear hr hb2
  go_wp2
  go_ret
  rw [HR.out]
  exact ⟨rfl,HB2.out⟩
 | true =>
  have HR:Hid (closedT T=(risT T 0).1):=Lib.hid (by unfold closedT;rw [hr];rfl)
  obtain ⟨W3,hW3⟩:∃ W3,W3=w2.alloc (.cells #[.int .i64 0] 3):=⟨_,rfl⟩
  have hb3:Below w2.heap.size w2 W3:=by rw [hW3];exact (Below.refl _ _).alloc (Nat.le_refl _) _
  have hz3:W3.heap.size=w2.heap.size+1:=by rw [hW3];simp
  have hq3:CellI W3 w2.heap.size 3 0:=by rw [hW3];exact heap_alloc_new _ _
  have hca:=rising_any w2.heap.size T 0 _ W3 hq3 ((HT1.out.blw hb2).keep fun g (hg:g < w2.heap.size)=>⟨⟨by omega,by omega⟩,hb3.block g hg⟩) (Int.le_refl _) (by have:=(rightT_iff.1 hr).1;omega)
  have hlb:=hb2.block _ (lt_blk HBX.out)
  have HB3:Hid (Below w.heap.size w W3):=Lib.hid (HB2.out.trans (hb3.mono HB2.out.size))
  obtain ⟨y0,y1,y2,y3⟩:=box4 ((hb3.block _ (by have:=hb2.size;have:=lt_blk HBX.out;omega)).trans (hlb.trans HBX.out))
  rw [hW3] at y0 y1 y2 y3
  have HZ2:Hid (w.heap.size≤w2.heap.size∧w2.heap.size≤W3.heap.size):=Lib.hid ⟨HB2.out.size,by omega⟩
  unfold tyV at hca
  have HCA:=Lib.hid hca
  clear hr hb2 hb3 hz3 hq3 hca hlb
  go_wp2_with fail
  rw [←hW3]
  clear hW3 y0 y1 y2 y3
  refine HCA.out.mono ?_
  rintro e w4 ⟨rfl,hq4,hk4⟩
  have HB4:Hid (Below w.heap.size w w4):=Lib.hid (HB3.out.trans (below_of_kept hk4 HZ2.out.1 (by have:=HZ2.out;omega)))
  clear hq4 hk4
  go_wp2
  go_ret
  rw [HR.out]
  exact ⟨rfl,HB4.out⟩
set_option maxRecDepth 20000 in
set_option maxHeartbeats 1000000 in
theorem short_any (T:Ty):∀ (v:Value) (w:World),TyAt (· < w.heap.size) w v T→Calls Tryz.prog 147 #[v] w fun e w'=>e=.returned (.bool (shortT T))∧Below w.heap.size w w':=by
 induction T using Ty.ind with
 | h T ih =>
  intro v w hT
  have IH:=Lib.hid ih
  clear ih
  obtain ⟨A,c,rfl,hc,hm,hn⟩:=hT.form
  obtain ⟨W1,hW1⟩:∃ W1,W1=w.alloc (.cells #[.int .i64 T.kind,.int .i64 T.num,.string T.name,.slice A T.args.length c] 61):=⟨_,rfl⟩
  have hb1:Below w.heap.size w W1:=by rw [hW1];exact (Below.refl _ _).alloc (Nat.le_refl _) _
  have hbx:W1.heap[w.heap.size]? = some (.cells #[.int .i64 T.kind,.int .i64 T.num,.string T.name,.slice A T.args.length c] 61 (0,0)):=by rw [hW1];exact heap_alloc_new _ _
  have HT1:=Lib.hid (hT.blw hb1);have HB1:=Lib.hid hb1
  obtain ⟨y0,y1,y2,y3⟩:=box4 hbx
  rw [hW1] at y0 y1 y2 y3
  have hln:T.name.size≤9223372036854775807:=hn
  clear hT hbx hb1 hc hm hn
  unfold tyV
  by_cases h1:T.name.size≤255
  ·by_cases h2:T.args.length≤255
   ·have HR:Hid (shortT T=shortL T.args):=Lib.hid (by rw [shortT_eq,decide_eq_true h1,decide_eq_true h2];rfl)
    have g1:¬ (255:Int) < (T.name.size:Int):=by omega
    have g2:¬ (255:Int) < (T.args.length:Int):=by omega
    go_enter Tryz.func147,Tryz.ntmps147
    go_wp2
    rw [←hW1]
    clear hW1 y0 y1 y2 y3 g1 g2
    go_loopw [18] (fun iv W=>∃ (k:Nat),k≤T.args.length∧iv=.int .i64 k∧Hid (shortL (T.args.drop k)=shortL T.args)∧Hid (Below W1.heap.size W1 W)) (fun iv _=>T.args.length - (RowKit.intOf iv).toNat)
    case atStart=>exact ⟨0,by omega,rfl,Lib.hid (by rw [List.drop_zero]),Lib.hid (Below.refl _ _)⟩
    case round =>
     obtain ⟨k,hk,rfl,HST,HB⟩:=hrel
     by_cases hlt:k < T.args.length
     ·obtain ⟨b,off,A',c',rfl,hb,ht,x0,x1,x2,x3⟩:=(HT1.out.blw HB.out).arg hlt
      have hst:=HST.out
      rw [shortL_step hlt] at hst
      obtain ⟨W2,hW2⟩:∃ W2,W2=wr.alloc (.cells #[.int .i64 T.args[k].kind,.int .i64 T.args[k].num,.string T.args[k].name,.slice A' T.args[k].args.length c'] 61):=⟨_,rfl⟩
      have hb2:Below wr.heap.size wr W2:=by rw [hW2];exact (Below.refl _ _).alloc (Nat.le_refl _) _
      have hca:=IH.out k hlt _ W2 (ht.blw hb2)
      obtain ⟨z0,z1,z2,z3⟩:=box4 (show W2.heap[wr.heap.size]? = some (.cells #[.int .i64 T.args[k].kind,.int .i64 T.args[k].num,.string T.args[k].name,.slice A' T.args[k].args.length c'] 61 (0,0)) by rw [hW2];exact heap_alloc_new _ _)
      have HB2:Hid (Below W1.heap.size W1 W2):=Lib.hid (HB.out.trans (hb2.mono HB.out.size))
      have HZ2:Hid (W1.heap.size≤W2.heap.size):=Lib.hid HB2.out.size
      clear ht
      generalize T.args[k]=V at *
      unfold tyV at hca
      obtain ⟨r,hr⟩:∃ r,r=shortT V:=⟨_,rfl⟩
      rw [←hr] at hca hst
      have HST2:=Lib.hid hst
      have HCA:=Lib.hid hca
      rw [hW2] at z0 z1 z2 z3
      clear hca hb2 hst hr
      go_wp2_with fail
      rw [←hW2]
      clear hW2 z0 z1 z2 z3
      refine HCA.out.mono ?_
      rintro e w3 ⟨rfl,hb3⟩
      have HB3:Hid (Below W1.heap.size W1 w3):=Lib.hid (HB2.out.trans (hb3.mono HZ2.out))
      clear hb3
      cases r with
      | false =>
       have HN:Hid (shortL T.args=false):=Lib.hid (by rw [←HST2.out];rfl)
       clear HST2
       go_wp2
       go_ret
       rw [HR.out,HN.out]
       exact ⟨rfl,HB1.out.trans (HB3.out.mono HB1.out.size)⟩
      | true =>
       have HN:Hid (shortL (T.args.drop (k+1))=shortL T.args):=Lib.hid (by rw [←HST2.out];rfl)
       clear HST2
       go_wp2
       go_roundw
       case rel=>exact ⟨k+1,by omega,by go_num,HN,HB3⟩
       case measure=>simp [RowKit.intOf];omega
     ·have hkl:k=T.args.length:=by omega
      have hst:=HST.out
      rw [hkl,List.drop_length,shortL] at hst
      have HE:=Lib.hid hst
      clear hst
      go_wp2
      go_ret
      rw [HR.out,←HE.out]
      exact ⟨rfl,HB1.out.trans (HB.out.mono HB1.out.size)⟩
   ·have HR:Hid (shortT T=false):=Lib.hid (by rw [shortT_eq,decide_eq_false h2,Bool.false_and,Bool.and_false])
    have g1:¬ (255:Int) < (T.name.size:Int):=by omega
    have g2:(255:Int) < (T.args.length:Int):=by omega
    go_enter Tryz.func147,Tryz.ntmps147
    go_wp2
    go_ret
    rw [HR.out,←hW1]
    exact ⟨rfl,HB1.out⟩
  ·have HR:Hid (shortT T=false):=Lib.hid (by rw [shortT_eq,decide_eq_false h1,Bool.false_and])
   have g1:(255:Int) < (T.name.size:Int):=by omega
   go_enter Tryz.func147,Tryz.ntmps147
   go_wp2
   go_ret
   rw [HR.out,←hW1]
   exact ⟨rfl,HB1.out⟩
end Go.Proofs.YtaalbcfpacpgfaaGreat
namespace Go.Typ
open Go.RowKit Go.Lib Go.Vfs Go.Par
def ltB (a b:ByteArray):Bool:=Op.bytesLess a.toList b.toList
end Go.Typ
namespace Go.Proofs.YtaalbcfpacpgfaaGreat
open Go.RowKit Go.Lib Go.Vfs Go.Par Go.Typ Go.Shelf
def okX (x:Ex):Bool:=decide (x.name.size≤255) && nameOk x.name.data.toList
def typX (x:Ex):Bool:=closedT x.ty && shortT x.ty
def goodX (xs:List Ex) (k:Nat):Bool:=match xs[k]? with
 | none=>true
 | some x=>okX x && ((decide (k=0) || ltB (xs.getD (k - 1) x).name x.name) && typX x)
def rightX (xs:List Ex):Bool:=decide (xs.length≤1000) && (List.range xs.length).all (goodX xs)
theorem rightX_true {xs:List Ex} (h:xs.length≤1000) (hg:∀ i,i < xs.length→goodX xs i=true):rightX xs=true:=by
 unfold rightX
 rw [decide_eq_true h,Bool.true_and,List.all_eq_true]
 exact fun i hi=>hg i (List.mem_range.1 hi)
theorem rightX_false {xs:List Ex} {k:Nat} (hk:k < xs.length) (hg:goodX xs k=false):rightX xs=false:=by
 unfold rightX
 have:(List.range xs.length).all (goodX xs)=false:=List.all_eq_false.2 ⟨k,List.mem_range.2 hk,by rw [hg];decide⟩
 rw [this,Bool.and_false]
theorem goodX_at {xs:List Ex} {k:Nat} (hk:k < xs.length):goodX xs k=(okX xs[k] && ((decide (k=0) || ltB (xs.getD (k - 1) xs[k]).name xs[k].name) && typX xs[k])):=by
 unfold goodX;rw [List.getElem?_eq_getElem hk]
set_option maxRecDepth 20000 in
set_option maxHeartbeats 4000000 in
theorem right14_any (xs:List Ex) (v:Value) (w:World) (hX:ExsAt (· < w.heap.size) w v xs):Calls Tryz.prog 117 #[v] w fun e w'=>e=.returned (.bool (rightX xs))∧Below w.heap.size w w':=by
 obtain ⟨A,c,rfl,hc,hm⟩:=hX.form
 have hla:xs.length≤9223372036854775807:=by simp only [maxLen] at hm;omega
 have HX:=Lib.hid hX
 clear hX hc hm
 by_cases hl:xs.length≤1000
 rotate_left
 ·have HR:Hid (rightX xs=false):=Lib.hid (by unfold rightX;rw [decide_eq_false hl,Bool.false_and])
  have g:(1000:Int) < (xs.length:Int):=by omega
  clear hl
  go_enter Tryz.func117,Tryz.ntmps117
  go_wp2
  go_ret
  rw [HR.out]
  exact ⟨rfl,Below.refl _ _⟩
 have g:¬ (1000:Int) < (xs.length:Int):=by omega
 go_enter Tryz.func117,Tryz.ntmps117
 go_wp2
 clear g
 go_loopw [10] (fun iv W=>∃ (k:Nat),k≤xs.length∧iv=.int .i64 k∧Hid (∀ i,i < k→goodX xs i=true)∧Hid (Below w.heap.size w W)) (fun iv _=>xs.length - (RowKit.intOf iv).toNat)
 case atStart=>exact ⟨0,by omega,rfl,Lib.hid fun i hi=>by omega,Lib.hid (Below.refl _ _)⟩
 case round =>
  obtain ⟨k,hk,rfl,HA,HB⟩:=hrel
  by_cases hlt:k < xs.length
  ·have hxr:=HX.out.blw HB.out
   obtain ⟨b,off,A',c',rfl,hb,hns,ht,x0,x1,x2,x3,x4⟩:=hxr.arg hlt
   have HPREV:Hid (0 < k→wr.cell? ⟨b,off+(k - 1) * 5,none⟩=some (.string (xs.getD (k - 1) xs[k]).name)):=Lib.hid fun h0=>by
    have hl2:k - 1 < xs.length:=by omega
    obtain ⟨b2,off2,_,_,e2,_,_,_,p0,_⟩:=hxr.arg hl2
    injection e2 with e2
    injection e2 with eb eo
    subst eb eo
    rw [List.getD_eq_getElem?_getD,List.getElem?_eq_getElem hl2]
    exact p0
   have hgd:=goodX_at hlt
   have HF:Hid (goodX xs k=false→rightX xs=false):=Lib.hid (rightX_false hlt)
   have HNX:Hid (goodX xs k=true→∀ i,i < k+1→goodX xs i=true):=Lib.hid fun h i hi=>by
    by_cases e:i=k
    ·rw [e];exact h
    ·exact HA.out i (by omega)
   generalize xs.getD (k - 1) xs[k]=P at *
   generalize xs[k]=X at *
   have HGD:=Lib.hid hgd
   obtain ⟨W2,hW2⟩:∃ W2,W2=wr.alloc (.cells #[.string X.name,.int .i64 X.ty.kind,.int .i64 X.ty.num,.string X.ty.name,.slice A' X.ty.args.length c'] 63):=⟨_,rfl⟩
   have hb2:Below wr.heap.size wr W2:=by rw [hW2];exact (Below.refl _ _).alloc (Nat.le_refl _) _
   have hbx:W2.heap[wr.heap.size]? = some (.cells #[.string X.name,.int .i64 X.ty.kind,.int .i64 X.ty.num,.string X.ty.name,.slice A' X.ty.args.length c'] 63 (0,0)):=by rw [hW2];exact heap_alloc_new _ _
   have HB2:Hid (Below w.heap.size w W2):=Lib.hid (HB.out.trans (hb2.mono HB.out.size))
   have HT2:=Lib.hid (ht.blw hb2)
   have HKN:=Lib.hid (kind_any X.name W2 hns)
   have HP2:Hid (0 < k→W2.cell? ⟨b,off+(k - 1) * 5,none⟩=some (.string P.name)):=Lib.hid fun h=>(hb2.cell (p:=⟨b,off+(k - 1) * 5,none⟩) hb).trans (HPREV.out h)
   have HBX:=Lib.hid hbx
   obtain ⟨z0,z1,z2,z3,z4⟩:=box5 hbx
   rw [hW2] at z0 z1 z2 z3 z4
   clear ht hxr hgd hb2 hbx
   by_cases h1:X.name.size≤255
   rotate_left
   ·have HR:Hid (rightX xs=false):=Lib.hid (HF.out (by rw [HGD.out];unfold okX;rw [decide_eq_false h1,Bool.false_and,Bool.false_and]))
    have g1:(255:Int) < (X.name.size:Int):=by omega
    clear h1
    go_wp2
    go_ret
    rw [HR.out,←hW2]
    exact ⟨rfl,HB2.out⟩
   have g1:¬ (255:Int) < (X.name.size:Int):=by omega
   go_wp2_with fail
   rw [←hW2]
   clear hW2 g1 z0 z1 z2 z3 z4
   refine HKN.out.mono ?_
   rintro e w3 ⟨z,rfl,hz,rfl⟩
   obtain ⟨z0,z1,z2,z3,z4⟩:=box5 HBX.out
   by_cases h2:z=1
   rotate_left
   ·have HR:Hid (rightX xs=false):=Lib.hid (HF.out (by
     have hno:nameOk X.name.data.toList=false:=by
      cases h:nameOk X.name.data.toList with
      | false=>rfl
      | true=>exact absurd (hz.2 h) h2
     rw [HGD.out];unfold okX;rw [hno,Bool.and_false,Bool.false_and]))
    have g1:(z != 1)=true:=by simp [h2]
    clear hz h2
    go_wp2
    go_ret
    rw [HR.out]
    exact ⟨rfl,HB2.out⟩
   have HOK:Hid (okX X=true):=Lib.hid (by unfold okX;rw [decide_eq_true h1,hz.1 h2,Bool.true_and])
   have g1:(z != 1)=false:=by simp [h2]
   clear hz h2 h1
   by_cases hk0:k=0
   focus
    have HGX:Hid (goodX xs k=typX X):=Lib.hid (by rw [HGD.out,HOK.out,decide_eq_true hk0];rfl)
    subst hk0
    go_wp2_with fail
    go_quiet (fail)
    clear g1
   rotate_left
   focus
    obtain ⟨j,hj⟩:∃ j,j=k - 1:=⟨_,rfl⟩
    have hp:=HP2.out (by omega)
    rw [←hj] at hp
    have hgd0:decide ((0:Int) < (k:Int))=true:=decide_eq_true (by omega)
    have hgd1:decide (0 < k)=true:=decide_eq_true (by omega)
    have hsub:(k:Int) - 1=(j:Int):=by omega
    have hjl:j < xs.length:=by omega
    have hjn:((j:Nat):Int) < (xs.length:Int):=by omega
    clear hj
    have HGX0:Hid (goodX xs k=(ltB P.name X.name && typX X)):=Lib.hid (by rw [HGD.out,HOK.out,decide_eq_false hk0];rfl)
    clear hk0
    go_wp2_with fail
    go_quiet (fail)
    clear hgd0 hgd1 hsub hp g1 hjl hjn
    by_cases hq:Op.bytesLess P.name.toList X.name.toList=true
    rotate_left
    ·have hq':Op.bytesLess P.name.toList X.name.toList=false:=by simpa using hq
     have HR:Hid (rightX xs=false):=Lib.hid (HF.out (by rw [HGX0.out];unfold ltB;rw [hq',Bool.false_and]))
     rw [hq']
     clear hq
     go_wp2
     go_ret
     rw [HR.out]
     exact ⟨rfl,below_drewNQ HB2.out _⟩
    have HGX:Hid (goodX xs k=typX X):=Lib.hid (by rw [HGX0.out];unfold ltB;rw [hq,Bool.true_and])
    rw [hq]
    clear HGX0 hq
   all_goals
    obtain ⟨W4,hW4⟩:∃ W4,W4=w3.drewN nq:=⟨_,rfl⟩
    have hb4:Below w3.heap.size w3 W4:=by rw [hW4];exact below_drewNQ (Below.refl _ _) _
    have HB4:Hid (Below w.heap.size w W4):=Lib.hid (HB2.out.trans (hb4.mono HB2.out.size))
    have HCL:=Lib.hid (closed_any X.ty _ W4 (HT2.out.blw hb4))
    have HT4:=Lib.hid (HT2.out.blw hb4)
    have HBX4:=Lib.hid ((hb4.block _ (lt_blk HBX.out)).trans HBX.out)
    rw [←hW4]
    clear hb4 hW4
    unfold tyV at HCL
    obtain ⟨u0,u1,u2,u3,u4⟩:=box5 HBX4.out
    go_wp2_with fail
    refine HCL.out.mono ?_
    rintro e w5 ⟨rfl,hb5⟩
    have HB5:Hid (Below w.heap.size w w5):=Lib.hid (HB4.out.trans (hb5.mono HB4.out.size))
    have HSH:=Lib.hid (short_any X.ty _ w5 (HT4.out.blw hb5))
    obtain ⟨q0,q1,q2,q3,q4⟩:=box5 ((hb5.block _ (lt_blk HBX4.out)).trans HBX4.out)
    unfold tyV at HSH
    clear hb5 u0 u1 u2 u3 u4
    cases hc:closedT X.ty with
    | false =>
     have HR:Hid (rightX xs=false):=Lib.hid (HF.out (by rw [HGX.out];unfold typX;rw [hc,Bool.false_and]))
     clear hc
     go_wp2
     go_ret
     rw [HR.out]
     exact ⟨rfl,HB5.out⟩
    | true =>
     have HCT:=Lib.hid hc
     clear hc
     go_wp2_with fail
     refine HSH.out.mono ?_
     rintro e w6 ⟨rfl,hb6⟩
     have HB6:Hid (Below w.heap.size w w6):=Lib.hid (HB5.out.trans (hb6.mono HB5.out.size))
     clear hb6 q0 q1 q2 q3 q4
     cases hs:shortT X.ty with
     | false =>
      have HR:Hid (rightX xs=false):=Lib.hid (HF.out (by rw [HGX.out];unfold typX;rw [hs,Bool.and_false]))
      clear hs
      go_wp2
      go_ret
      rw [HR.out]
      exact ⟨rfl,HB6.out⟩
     | true =>
      have HN:=Lib.hid (HNX.out (by rw [HGX.out];unfold typX;rw [hs,HCT.out];rfl))
      clear hs
      go_wp2
      go_roundw
      case rel=>exact ⟨_,by omega,by go_num,HN,HB6⟩
      case measure=>simp [RowKit.intOf];omega
  ·have hkl:k=xs.length:=by omega
   have HR:Hid (rightX xs=true):=Lib.hid (rightX_true hl fun i hi=>HA.out i (by omega))
   go_wp2
   go_ret
   rw [HR.out]
   exact ⟨rfl,HB.out⟩
theorem exE:ElemK Tryz.prog 53 63 5:=elemK_of (b:=72) (z:=.agg #[.string ⟨#[]⟩,.int .i64 0,.int .i64 0,.string ⟨#[]⟩,.slice none 0 0]) Tryz.underlying53 (by kernel_rfl) (by decide) rfl (by decide)
section
variable {P:Program} (w:World)
theorem wp_appK {o:Oper} {a:Act} {K:Act→World→Prop} {Q:Exit→Act→World→Prop} (s x:Operand) (t:TypeId)
  (ho:o.op=.call { callee:=.builtin .append,args:=#[s,x],argTypes:=#[t,t] })
  (base:Nat) (e:TypeId) (k:Nat) (E:ElemK P t e k) (v:Value) (n:Nat) (xs:List Value) (hs:a.eval s=v) (hown:w.ownsRow base e k v n xs)
  (ad:Addr) (m c:Nat) (news:List Value) (hx:a.eval x=.slice (some ad) m c) (hl:news.length=m * k) (hcells:∀ j u,news[j]? = some u→w.cell? (ad.add j)=some u) (h1:∀ u∈news,u.oneCell'=true)
  (hbd:n+m≤1099511627776) (hbase:base≤w.heap.size)
  (h:∀ v' w',w'.ownsRow base e k v' (n+m) (xs ++ news)→w.grownBy w' v.ownBlock→(v'.ownBlock=v.ownBlock∨v'.ownBlock=some w.heap.size)→K (a.put o.dst v') w'):o.wp P a w K Q:=by
 obtain ⟨v',w',hrun,h2,h3,h4⟩:=run_appK (P:=P) w base t o.type e k E v n xs hown ad m c news hl hcells h1 hbd hbase
 unfold Oper.wp execOp
 simp only [ho,resolve,invoke,builtin,Sem.run_bind,Sem.run_pure,Result.andThen_ok,List.map_toArray,List.map_cons,List.map_nil,hs,hx,hrun]
 exact h v' w' h2 h3 h4
end
theorem one5 (s:ByteArray) (k num:Int) (nm:ByteArray) (A:Option Addr) (n c:Nat):∀ u∈[Value.string s,.int .i64 k,.int .i64 num,.string nm,.slice A n c],u.oneCell'=true:=by
 intro u hu
 simp at hu
 rcases hu with rfl|rfl|rfl|rfl|rfl <;> rfl
def RowOk (T:Ty):Prop:=∀ x∈T.list,x.args.length≤2513169434843
theorem RowOk.self {T:Ty} (h:RowOk T):T.args.length≤2513169434843:=h T (by rw [T.list_eq];exact List.mem_cons_self)
theorem RowOk.arg {T:Ty} (h:RowOk T) {i:Nat} (hi:i < T.args.length):RowOk T.args[i]:=fun x hx=>h x (by
 rw [T.list_eq]
 exact List.mem_cons_of_mem _ (mem_listL (List.getElem_mem hi) hx))
theorem RowOk.of_parts {T:Ty} (h:T.parts≤2513169434843):RowOk T:=by
 intro x hx
 have key:∀ T:Ty,∀ x∈T.list,x.parts≤T.parts:=by
  intro T
  induction T using Ty.ind with
  | h T ih =>
   intro x hx
   rw [T.list_eq] at hx
   rcases List.mem_cons.1 hx with rfl|hx
   ·exact Nat.le_refl _
   ·have k2:∀ ts:List Ty,(∀ t∈ts,∀ x∈t.list,x.parts≤t.parts)→∀ x∈listL ts,x.parts≤partsL ts:=by
     intro ts
     induction ts with
     | nil=>intro _ x hx;simp [listL] at hx
     | cons t ts ih2 =>
      intro h x hx
      rw [listL] at hx
      rw [partsL]
      rcases List.mem_append.1 hx with hx|hx
      ·have:=h t (by simp) x hx;omega
      ·have:=ih2 (fun y hy=>h y (by simp [hy])) x hx;omega
    have:=k2 T.args (fun t ht=>by obtain ⟨i,hi,rfl⟩:=List.getElem_of_mem ht;exact ih i hi) x hx
    rw [T.parts_eq];omega
 have h1:=key T x hx
 have h2:=length_parts x.args
 rw [x.parts_eq] at h1
 omega
structure ElemKb (P:Program) (t e:TypeId) (k b:Nat):Prop where
 und:P.underlying t=some (.slice e)
 info:∃ i z,P.info? e=some i∧i.zero=some z∧i.size=k∧i.bytes=b∧z.cells.size=k
 pos:0 < k
theorem tyEb:ElemKb Tryz.prog 59 61 4 56:=by
 refine ⟨Tryz.underlying59,?_,by decide⟩
 have h:(Tryz.prog.info? 61).map (fun i=>(i.zero,i.size,i.bytes))=some (some (.agg #[.int .i64 0,.int .i64 0,.string ⟨#[]⟩,.slice none 0 0]),4,56):=by kernel_rfl
 obtain ⟨i,h1,h2,h3,h4⟩:=info_parts h
 exact ⟨i,_,h1,h2,h3,h4,rfl⟩
theorem wpList_appKb {P:Program} (w:World) {ops:Array Oper} {rest:List Oper} {o:Oper} {a:Act} {Q:Exit→Act→World→Prop} (hgd:o.guard=none) (s x:Operand) (t:TypeId)
  (ho:o.op=.call { callee:=.builtin .append,args:=#[s,x],argTypes:=#[t,t] })
  (base:Nat) (e:TypeId) (k b:Nat) (E:ElemKb P t e k b) (v:Value) (n:Nat) (xs:List Value) (hs:a.eval s=v) (hown:w.ownsRow base e k v n xs)
  (ad:Addr) (m c:Nat) (news:List Value) (hx:a.eval x=.slice (some ad) m c) (hl:news.length=m * k) (hcells:∀ j u,news[j]? = some u→w.cell? (ad.add j)=some u) (h1:∀ u∈news,u.oneCell'=true)
  (hm:n+m≤maxLen) (hbd:(n+m) * b≤140737488355328) (hbase:base≤w.heap.size)
  (h:∀ v' w',w'.ownsRow base e k v' (n+m) (xs ++ news)→w.grownBy w' v.ownBlock→(v'.ownBlock=v.ownBlock∨v'.ownBlock=some w.heap.size)→wpList P ops Q rest (a.put o.dst v') w'):wpList P ops Q (o :: rest) a w :=
 wpList_plain hgd fun _ hK=>by
  obtain ⟨i,z,hi,hz,hsz,hby,hzs⟩:=E.info
  obtain ⟨v',w',hrun,h2,h3,_,h4⟩:=run_append_own_at (P:=P) w base t o.type e i z k b E.und hi hz hsz hby hzs E.pos v n xs hown ad m c news hl hcells h1 hm hbd hbase
  unfold Oper.wp execOp
  simp only [ho,resolve,invoke,builtin,Sem.run_bind,Sem.run_pure,Result.andThen_ok,List.map_toArray,List.map_cons,List.map_nil,hs,hx,hrun]
  exact hK _ _ (h v' w' h2 h3 h4)
end Go.Proofs.YtaalbcfpacpgfaaGreat
namespace Go.Typ
open Go.RowKit Go.Lib Go.Vfs Go.Par
def CleanB (W:World) (b:Nat):Prop:=∃ cs t,W.heap[b]? = some (.cells cs t (0,0))
theorem CleanB.keep {W W':World} {b:Nat} (h:CleanB W b) (hk:W'.heap[b]? = W.heap[b]?):CleanB W' b:=by
 obtain ⟨cs,t,h⟩:=h;exact ⟨cs,t,hk.trans h⟩
def TyC (S:Nat→Prop) (W:World) (v:Value) (T:Ty):Prop:=TyAt (fun g=>S g∧CleanB W g) W v T
def ExCl (S:Nat→Prop) (W:World) (v:Value) (x:Ex):Prop:=ExAt (fun g=>S g∧CleanB W g) W v x
def ExsC (S:Nat→Prop) (W:World) (v:Value) (xs:List Ex):Prop:=ExsAt (fun g=>S g∧CleanB W g) W v xs
theorem TyC.keep {S S':Nat→Prop} {w w':World} {v:Value} {x:Ty} (h:TyC S w v x) (hk:∀ b,S b→S' b∧w'.heap[b]? = w.heap[b]?):TyC S' w' v x :=
 TyAt.keep h fun b hb=>⟨⟨(hk b hb.1).1,hb.2.keep (hk b hb.1).2⟩,(hk b hb.1).2⟩
theorem ExCl.keep {S S':Nat→Prop} {w w':World} {v:Value} {x:Ex} (h:ExCl S w v x) (hk:∀ b,S b→S' b∧w'.heap[b]? = w.heap[b]?):ExCl S' w' v x :=
 ExAt.keep h fun b hb=>⟨⟨(hk b hb.1).1,hb.2.keep (hk b hb.1).2⟩,(hk b hb.1).2⟩
theorem ExsC.keep {S S':Nat→Prop} {w w':World} {v:Value} {x:List Ex} (h:ExsC S w v x) (hk:∀ b,S b→S' b∧w'.heap[b]? = w.heap[b]?):ExsC S' w' v x :=
 ExsAt.keep h fun b hb=>⟨⟨(hk b hb.1).1,hb.2.keep (hk b hb.1).2⟩,(hk b hb.1).2⟩
theorem TyC.at_ {S:Nat→Prop} {w:World} {v:Value} {x:Ty} (h:TyC S w v x):TyAt S w v x:=TyAt.sub h fun _ hg=>hg.1
theorem ExsC.at_ {S:Nat→Prop} {w:World} {v:Value} {x:List Ex} (h:ExsC S w v x):ExsAt S w v x:=ExsAt.sub h fun _ hg=>hg.1
theorem RowK.clean {α:Type} {e k:Nat} {R:(Nat→Prop)→World→Value→α→Prop} {L B:Nat} {w:World} {xs:List α} {v:Value} {us:List Value} (h:RowK e k R L B w xs v us) {g:Nat} (hg:v.ownBlock=some g):CleanB w g:=by
 rcases h.own.2 with ⟨e',h0'⟩|⟨g',cap,cur,e',_,hh,_⟩
 ·rw [e'] at hg;cases hg
 ·rw [e'] at hg;cases hg;exact ⟨cur,_,hh⟩
theorem RowK.tyC {e L B:Nat} {w:World} {ts:List Ty} {v:Value} {us:List Value} (h:RowK e 4 TyC L B w ts v us) (k num:Int) (name:ByteArray) (hn:name.size≤9223372036854775807) :
  ∃ A c,v=.slice A ts.length c∧TyC (fun g=>(L≤g∨B≤g)∧g < w.heap.size) w (tyV k num name A ts.length c) (.mk k num name ts):=by
 have hcl:∀ g,v.ownBlock=some g→CleanB w g:=fun g e=>h.clean e
 obtain ⟨A,c,rfl,hc,hm⟩:=h.form
 refine ⟨A,c,rfl,.mk k num name ts A c (fun i=>us.getD i (.bool false)) hc hm hn (fun h0=>?_) (fun i hi=>TyC.keep (h.each i hi) fun g hg=>⟨⟨.inl hg.1,hg.2.1⟩,rfl⟩)⟩
 obtain ⟨g,c',e,hb,hlt,hat⟩:=h.cells h0
 injection e with e1 _ _
 refine ⟨g,0,e1,⟨⟨.inr hb,hlt⟩,hcl g (by rw [e1];rfl)⟩,fun i hi j hj=>?_⟩
 rw [hat i hi j hj]
 obtain ⟨A',c',e,_⟩:=(TyC.at_ (h.each i hi)).form
 rw [e]
 have:j=0∨j=1∨j=2∨j=3:=by omega
 rcases this with rfl|rfl|rfl|rfl <;> rfl
theorem RowK.exsC {e L B:Nat} {w:World} {xs:List Ex} {v:Value} {us:List Value} (h:RowK e 5 ExCl L B w xs v us):ExsC (fun g=>(L≤g∨B≤g)∧g < w.heap.size) w v xs:=by
 have hcl:∀ g,v.ownBlock=some g→CleanB w g:=fun g e=>h.clean e
 obtain ⟨A,c,rfl,hc,hm⟩:=h.form
 refine ⟨A,c,rfl,hc,hm,fun i=>us.getD i (.bool false),fun h0=>?_,fun i hi=>ExCl.keep (h.each i hi) fun g hg=>⟨⟨.inl hg.1,hg.2.1⟩,rfl⟩⟩
 obtain ⟨g,c',e,hb,hlt,hat⟩:=h.cells h0
 injection e with e1 _ _
 refine ⟨g,0,e1,⟨⟨.inr hb,hlt⟩,hcl g (by rw [e1];rfl)⟩,fun i hi j hj=>?_⟩
 rw [hat i hi j hj]
 show _=some (fld (us.getD i (.bool false)) j)
 obtain ⟨A',c',e,_⟩:=h.each i hi
 rw [e]
 have:j=0∨j=1∨j=2∨j=3∨j=4:=by omega
 rcases this with rfl|rfl|rfl|rfl|rfl <;> rfl
end Go.Typ
namespace Go.Proofs.YtaalbcfpacpgfaaGreat
open Go.RowKit Go.Lib Go.Vfs Go.Par Go.Typ Go.Shelf
set_option maxRecDepth 20000 in
set_option maxHeartbeats 2000000 in
theorem copiedCl_any (T:Ty):∀ (v:Value) (w:World),TyAt (· < w.heap.size) w v T→RowOk T →
  Calls Tryz.prog 107 #[v] w fun e w'=>∃ A c,e=.returned (tyV T.kind T.num T.name A T.args.length c)∧TyC (fun g=>w.heap.size≤g∧g < w'.heap.size) w' (tyV T.kind T.num T.name A T.args.length c) T∧Below w.heap.size w w':=by
 induction T using Ty.ind with
 | h T ih =>
  intro v w hT hp
  have IH:=Lib.hid ih
  clear ih
  obtain ⟨A,c,rfl,hc,hm,hn⟩:=hT.form
  have hla:T.args.length≤2513169434843:=hp.self
  obtain ⟨W1,hW1⟩:∃ W1,W1=(w.alloc (.cells #[.int .i64 T.kind,.int .i64 T.num,.string T.name,.slice A T.args.length c] 61)).alloc (.cells #[.int .i64 0,.int .i64 0,.string ⟨#[]⟩,.slice none 0 0] 61):=⟨_,rfl⟩
  have hL:Loop4 w W1 w.heap.size T A c:=by
   refine ⟨?_,by rw [hW1];simp;omega,Nat.le_refl _,by rw [hW1];exact ((Below.refl _ _).alloc (Nat.le_refl _) _).alloc (by simp) _,hT⟩
   rw [hW1,Below.heap_alloc _ _ _ (by simp)]
   exact heap_alloc_new _ _
  have hres:W1.heap[w.heap.size+1]? = some (.cells #[.int .i64 0,.int .i64 0,.string ⟨#[]⟩,.slice none 0 0] 61 (0,0)):=by
   rw [hW1]
   have:=heap_alloc_new (w.alloc (.cells #[.int .i64 T.kind,.int .i64 T.num,.string T.name,.slice A T.args.length c] 61)) (.cells #[.int .i64 0,.int .i64 0,.string ⟨#[]⟩,.slice none 0 0] 61)
   simpa using this
  have hz1:W1.heap.size=w.heap.size+2:=by rw [hW1];simp
  have HL:=Lib.hid hL;have HRS:=Lib.hid hres;have HP:=Lib.hid hp;have HZ1:=Lib.hid hz1
  obtain ⟨y0,y1,y2,y3⟩:=box4 hL.box
  rw [hW1] at y0 y1 y2 y3
  clear hT hL hres hp hz1
  unfold tyV
  go_enter Tryz.func107,Tryz.ntmps107
  go_wp2
  rw [←hW1]
  clear y0 y1 y2 y3 hW1
  go_loopw [3,9] (fun sv iv W=>∃ (k:Nat) (us:List Value),k≤T.args.length∧iv=.int .i64 k∧Hid (RowK 61 4 TyC W1.heap.size W1.heap.size W (T.args.take k) sv us)∧Hid (Below W1.heap.size W1 W)) (fun _ iv _=>T.args.length - (RowKit.intOf iv).toNat)
  case atStart=>exact ⟨0,[],by omega,rfl,Lib.hid (RowK.nil W1),Lib.hid (Below.refl _ _)⟩
  case round =>
   obtain ⟨k,us,hk,rfl,HR,HB⟩:=hrel
   by_cases hlt:k < T.args.length
   ·obtain ⟨b,off,A',c',rfl,hb,ht,x0,x1,x2,x3⟩:=(HL.out.ty' HB.out).arg hlt
    obtain ⟨W2,hW2⟩:∃ W2,W2=wr.alloc (.cells #[.int .i64 T.args[k].kind,.int .i64 T.args[k].num,.string T.args[k].name,.slice A' T.args[k].args.length c'] 61):=⟨_,rfl⟩
    have hb2:Below wr.heap.size wr W2:=by rw [hW2];exact (Below.refl _ _).alloc (Nat.le_refl _) _
    have hca:=IH.out k hlt _ W2 (ht.blw hb2) (HP.out.arg hlt)
    obtain ⟨z0,z1,z2,z3⟩:=box4 (show W2.heap[wr.heap.size]? = some (.cells #[.int .i64 T.args[k].kind,.int .i64 T.args[k].num,.string T.args[k].name,.slice A' T.args[k].args.length c'] 61 (0,0)) by rw [hW2];exact heap_alloc_new _ _)
    have HTK:Hid (T.args.take (k+1)=T.args.take k ++ [T.args[k]]):=Lib.hid (by rw [List.take_succ_eq_append_getElem hlt])
    have hlk:(T.args.take k).length=k:=by rw [List.length_take];omega
    have HLK:=Lib.hid hlk
    have HR2':=Lib.hid (RowK.below (R:=TyC) TyC.keep HR.out hb2)
    have HB2:Hid (Below W1.heap.size W1 W2):=Lib.hid (HB.out.trans (hb2.mono HB.out.size))
    have hzb:=HB2.out.size
    clear ht hlk hb2
    generalize T.args[k]=U at *
    unfold tyV at hca
    have HCA:=Lib.hid hca
    rw [hW2] at z0 z1 z2 z3
    clear hca
    go_wp2_with fail
    rw [←hW2]
    clear hW2 z0 z1 z2 z3
    refine HCA.out.mono ?_
    rintro e w2 ⟨A2,c2,rfl,hu,HB3⟩
    have hr2:=RowK.below (R:=TyC) TyC.keep HR2'.out HB3
    have HR2:=Lib.hid hr2;have HU:=Lib.hid hu
    have hown:=hr2.own
    rw [HLK.out] at hown
    obtain ⟨us',hus⟩:∃ us',us'=us.flatMap flatC:=⟨_,rfl⟩
    rw [←hus] at hown
    have hz2:=HB3.size
    clear hr2 hu
    go_wp2_with (at_builtin;refine wpList_appKb _ rfl _ _ _ rfl W1.heap.size _ 4 56 tyEb _ k us' rfl (World.ownsRow.alloc hown _) ⟨w2.heap.size,0,none⟩ 1 1 [.int .i64 U.kind,.int .i64 U.num,.string U.name,.slice A2 U.args.length c2] rfl rfl (cells_new _ _ _) (one4 _ _ _ _ _ _) (by simp only [maxLen];omega) (by omega) (by simp;omega) ?_;intro v3 w3 hown3 hg3 hat3)
    go_roundw
    case rel =>
     refine ⟨k+1,us ++ [.agg #[.int .i64 U.kind,.int .i64 U.num,.string U.name,.slice A2 U.args.length c2]],by omega,by go_num,Lib.hid ?_,Lib.hid ?_⟩
     ·rw [HTK.out]
      refine RowK.next (R:=TyC) TyC.keep HR2.out HU.out (fun g hg=>⟨by omega,hg.2,fun e=>?_⟩) rfl _ ?_ hg3 hat3
      ·have:=HR2'.out.lt g e;omega
      ·rw [HLK.out,←hus];exact hown3
     ·exact below_grow (HB2.out.trans (HB3.mono hzb)) (by omega) _ hg3 (fun g e=>(hown.lt g e).1)
    case measure=>simp [RowKit.intOf];omega
   ·have hkl:k=T.args.length:=by omega
    subst hkl
    have hr:=HR.out
    rw [List.take_length] at hr
    obtain ⟨A2,c2,rfl,hty⟩:=hr.tyC T.kind T.num T.name hn
    have hbox:=HL.out.in_ HB.out
    have hres:wr.heap[w.heap.size+1]? = some (.cells #[.int .i64 0,.int .i64 0,.string ⟨#[]⟩,.slice none 0 0] 61 (0,0)):=by
     rw [HB.out.block _ (by have:=HZ1.out;omega)];exact HRS.out
    obtain ⟨y0,y1,y2,y3⟩:=box4 hbox
    obtain ⟨q0,q1,q2,q3⟩:=box4_frozen hbox
    obtain ⟨r0,r1,r2,r3⟩:=box4 hres
    obtain ⟨s0,s1,s2,s3⟩:=box4_frozen hres
    have HTY:=Lib.hid hty
    have HRB:=Lib.hid hres
    clear hty hr hres hbox
    go_wp2
    obtain ⟨Wf,hWf⟩:∃ Wf,Wf=(((((wr.setCell ⟨w.heap.size,3,none⟩ (.slice A2 T.args.length c2)).setCell ⟨w.heap.size+1,0,none⟩ (.int .i64 T.kind)).setCell ⟨w.heap.size+1,1,none⟩ (.int .i64 T.num)).setCell ⟨w.heap.size+1,2,none⟩ (.string T.name)).setCell ⟨w.heap.size+1,3,none⟩ (.slice A2 T.args.length c2)):=⟨_,rfl⟩
    have hkp:Kept (fun g=>g=w.heap.size∨g=w.heap.size+1) wr Wf:=by
     rw [hWf]
     exact kept4 ((Kept.refl _ _).setCell (p:=⟨w.heap.size,3,none⟩) (.inl (.inl rfl)) _) (.inl (.inr rfl))
    have hbx:Wf.heap[w.heap.size+1]? = some (.cells #[.int .i64 T.kind,.int .i64 T.num,.string T.name,.slice A2 T.args.length c2] 61 (0,0)):=by
     rw [hWf]
     refine put4 (u0:=.int .i64 0) (u1:=.int .i64 0) (u2:=.string ⟨#[]⟩) (u3:=.slice none 0 0) ?_
     rw [Below.heap_setCell _ _ _ _ (by simp)]
     exact HRB.out
    have hz1:=HZ1.out
    have hzr:=HB.out.size
    have hzf:=hkp.size
    rw [←hWf]
    obtain ⟨f0,f1,f2,f3⟩:=box4 hbx
    refine bodyPost_ret (v:=.agg #[.int .i64 T.kind,.int .i64 T.num,.string T.name,.slice A2 T.args.length c2]) (by simp [results,Tryz.results107,go_sem,f0,f1,f2,f3]) rfl ?_
    refine ⟨A2,c2,rfl,?_,(HL.out.all HB.out).trans (hkp.below (by omega) (fun g hg=>by omega))⟩
    rw [←T.eta] at HTY
    exact TyC.keep HTY.out fun g hg=>⟨by omega,hkp.block g hg.2 (by omega)⟩
end Go.Proofs.YtaalbcfpacpgfaaGreat
namespace Go.Typ
open Classical in
noncomputable def sameX (xs ys:List Ex):Bool:=decide (xs=ys)
theorem sameX_true {xs ys:List Ex} (h:xs=ys):sameX xs ys=true:=by simp [sameX,h]
theorem sameX_false {xs ys:List Ex} (h:¬ xs=ys):sameX xs ys=false:=by simp [sameX,h]
theorem sameX_iff {xs ys:List Ex}:sameX xs ys=true↔xs=ys:=by simp [sameX]
theorem getElem_ne {xs ys:List Ex} {k:Nat} (h1:k < xs.length) (h2:k < ys.length) (h:¬ xs[k]=ys[k]):¬ xs=ys:=fun e=>h (by subst e;rfl)
end Go.Typ
namespace Go.Proofs.YtaalbcfpacpgfaaGreat
open Go.RowKit Go.Lib Go.Vfs Go.Par Go.Typ Go.Shelf
set_option maxRecDepth 20000 in
set_option maxHeartbeats 4000000 in
theorem sameExports_any (xs ys:List Ex) (u v:Value) (w:World) (hX:ExsAt (· < w.heap.size) w u xs) (hY:ExsAt (· < w.heap.size) w v ys) :
  Calls Tryz.prog 59 #[u,v] w fun e w'=>e=.returned (.bool (sameX xs ys))∧Below w.heap.size w w':=by
 obtain ⟨A,c,rfl,hc,hm⟩:=hX.form
 obtain ⟨A2,c2,rfl,hc2,hm2⟩:=hY.form
 have HX:=Lib.hid hX;have HY:=Lib.hid hY
 have hla:xs.length≤9223372036854775807:=by simp only [maxLen] at hm;omega
 have hlb:ys.length≤9223372036854775807:=by simp only [maxLen] at hm2;omega
 clear hX hc hm hY hc2 hm2
 by_cases hl:xs.length=ys.length
 rotate_left
 ·have HR:Hid (sameX xs ys=false):=Lib.hid (sameX_false fun e=>hl (by rw [e]))
  have h4:((xs.length:Int) != (ys.length:Int))=true:=by simp;omega
  clear hl
  go_enter Tryz.func59,Tryz.ntmps59
  go_wp2
  go_ret
  rw [HR.out]
  exact ⟨rfl,Below.refl _ _⟩
 have h4:((xs.length:Int) != (ys.length:Int))=false:=by simp [hl]
 have HL:=Lib.hid hl
 clear hl
 go_enter Tryz.func59,Tryz.ntmps59
 go_wp2
 clear h4
 go_loopw [5] (fun iv W=>∃ (k:Nat),k≤xs.length∧iv=.int .i64 k∧Hid (xs.take k=ys.take k)∧Hid (Below w.heap.size w W)) (fun iv _=>xs.length - (RowKit.intOf iv).toNat)
 case atStart=>exact ⟨0,by omega,rfl,Lib.hid (by simp),Lib.hid (Below.refl _ _)⟩
 case round =>
  obtain ⟨k,hk,rfl,HA,HB⟩:=hrel
  by_cases hlt:k < xs.length
  ·have hlt':k < ys.length:=by have:=HL.out;omega
   obtain ⟨b,off,A',c',rfl,hb,hns,ht,x0,x1,x2,x3,x4⟩:=(HX.out.blw HB.out).arg hlt
   obtain ⟨b',off',A2',c2',rfl,hb',hns',ht',y0,y1,y2,y3,y4⟩:=(HY.out.blw HB.out).arg hlt'
   have hd:Below wr.heap.size wr wr.drew:=(Below.refl wr.heap.size _).drew
   have hca:=sameType_any xs[k].ty ys[k].ty _ _ wr.drew (ht.blw hd) (ht'.blw hd)
   have HNE:Hid (¬ xs[k]=ys[k]→sameX xs ys=false):=Lib.hid fun h=>sameX_false (getElem_ne hlt hlt' h)
   have HTK:Hid (xs[k]=ys[k]→xs.take (k+1)=ys.take (k+1)):=Lib.hid fun h=>by rw [List.take_succ_eq_append_getElem hlt,List.take_succ_eq_append_getElem hlt',HA.out,h]
   have HBD:Hid (Below w.heap.size w wr.drew):=Lib.hid (HB.out.trans (hd.mono HB.out.size))
   have HD:=Lib.hid hd
   clear ht ht' hns hns' hd
   generalize xs[k]=X at *
   generalize ys[k]=Y at *
   obtain ⟨q,hq⟩:∃ q,q=same X.ty Y.ty:=⟨_,rfl⟩
   rw [←hq] at hca
   have HQ:=Lib.hid hq
   unfold tyV at hca
   have HCA:=Lib.hid hca
   have HSK:Hid (∀ W',Below wr.heap.size wr W'→W'.cell? ⟨b,off+k * 5,none⟩=some (.string X.name)∧W'.cell? ⟨b,off+k * 5+1,none⟩=some (.int .i64 X.ty.kind)∧W'.cell? ⟨b,off+k * 5+2,none⟩=some (.int .i64 X.ty.num)∧W'.cell? ⟨b,off+k * 5+3,none⟩=some (.string X.ty.name)∧W'.cell? ⟨b,off+k * 5+4,none⟩=some (.slice A' X.ty.args.length c') ∧
     W'.cell? ⟨b',off'+k * 5,none⟩=some (.string Y.name)∧W'.cell? ⟨b',off'+k * 5+1,none⟩=some (.int .i64 Y.ty.kind)∧W'.cell? ⟨b',off'+k * 5+2,none⟩=some (.int .i64 Y.ty.num)∧W'.cell? ⟨b',off'+k * 5+3,none⟩=some (.string Y.ty.name)∧W'.cell? ⟨b',off'+k * 5+4,none⟩=some (.slice A2' Y.ty.args.length c2')) :=
    Lib.hid fun W' h=>⟨(h.cell (p:=⟨_,_,none⟩) hb).trans x0,(h.cell (p:=⟨_,_,none⟩) hb).trans x1,(h.cell (p:=⟨_,_,none⟩) hb).trans x2,(h.cell (p:=⟨_,_,none⟩) hb).trans x3,(h.cell (p:=⟨_,_,none⟩) hb).trans x4,
     (h.cell (p:=⟨_,_,none⟩) hb').trans y0,(h.cell (p:=⟨_,_,none⟩) hb').trans y1,(h.cell (p:=⟨_,_,none⟩) hb').trans y2,(h.cell (p:=⟨_,_,none⟩) hb').trans y3,(h.cell (p:=⟨_,_,none⟩) hb').trans y4⟩
   clear hca hq
   by_cases hn:X.name=Y.name
   rotate_left
   ·have HR:Hid (sameX xs ys=false):=Lib.hid (HNE.out fun e=>hn (by rw [e]))
    have hne:(X.name.toList == Y.name.toList)=false:=beqS_ne hn
    clear hn
    go_wp2_with fail
    go_quiet (fail)
    go_wp2
    go_ret
    rw [HR.out]
    exact ⟨rfl,below_drewNQ HB.out _⟩
   have hne:(X.name.toList == Y.name.toList)=true:=(beqS _ _).2 hn
   have HN:=Lib.hid hn
   clear hn
   go_wp2_with fail
   go_region_held (fun W'=>W'.cell? ⟨b,off+k * 5,none⟩=some (.string X.name)∧W'.cell? ⟨b,off+k * 5+1,none⟩=some (.int .i64 X.ty.kind)∧W'.cell? ⟨b,off+k * 5+2,none⟩=some (.int .i64 X.ty.num)∧W'.cell? ⟨b,off+k * 5+3,none⟩=some (.string X.ty.name)∧W'.cell? ⟨b,off+k * 5+4,none⟩=some (.slice A' X.ty.args.length c') ∧
     W'.cell? ⟨b',off'+k * 5,none⟩=some (.string Y.name)∧W'.cell? ⟨b',off'+k * 5+1,none⟩=some (.int .i64 Y.ty.kind)∧W'.cell? ⟨b',off'+k * 5+2,none⟩=some (.int .i64 Y.ty.num)∧W'.cell? ⟨b',off'+k * 5+3,none⟩=some (.string Y.ty.name)∧W'.cell? ⟨b',off'+k * 5+4,none⟩=some (.slice A2' Y.ty.args.length c2'))
    (first | exact HSK.out _ HD.out | exact HSK.out _ (by assumption)) ((go_at_call 103;refine HCA.out.mono ?_;rintro e w2 ⟨rfl,hb2⟩;have HB2:=HD.out.trans (hb2.mono HD.out.size)))
   have HB3:Hid (Below w.heap.size w w2):=Lib.hid (HB.out.trans (HB2.mono HB.out.size))
   cases q
   ·have HR:Hid (sameX xs ys=false):=Lib.hid (HNE.out fun e=>by have h:=HQ.out;rw [e,same_true rfl] at h;cases h)
    go_wp2
    go_ret
    rw [HR.out]
    exact ⟨rfl,HB3.out⟩
   ·have HXY:=Lib.hid (HTK.out (Ex.ext' HN.out (same_iff.1 HQ.out.symm)))
    go_wp2
    go_roundw
    case rel=>exact ⟨k+1,by omega,by go_num,HXY,HB3⟩
    case measure=>simp [RowKit.intOf];omega
  ·have hkl:k=xs.length:=by omega
   have HR:Hid (sameX xs ys=true):=Lib.hid (sameX_true (by
    have h:=HA.out
    rw [hkl,List.take_length] at h
    rw [h,HL.out,List.take_length]))
   go_wp2
   go_ret
   rw [HR.out]
   exact ⟨rfl,HB.out⟩
end Go.Proofs.YtaalbcfpacpgfaaGreat
namespace Go.Typ
open Go.RowKit Go.Lib Go.Vfs Go.Par
def be4Q (n:Nat):List UInt8:=[(n / 16777216 % 256).toUInt8,(n / 65536 % 256).toUInt8,(n / 256 % 256).toUInt8,(n % 256).toUInt8]
theorem be4_lengthQ (n:Nat):(be4Q n).length=4:=rfl
mutual
def wrT:Ty→List UInt8
 | .mk k n s ts=>[k.toNat.toUInt8] ++ (if k=1 then be4Q n.toNat else (if k=2 then [s.size.toUInt8] ++ s.data.toList else []) ++ ([ts.length.toUInt8] ++ wrL ts))
def wrL:List Ty→List UInt8
 | []=>[]
 | t :: ts=>wrT t ++ wrL ts
end
theorem wrT_eq (T:Ty):wrT T=[T.kind.toNat.toUInt8] ++ (if T.kind=1 then be4Q T.num.toNat else (if T.kind=2 then [T.name.size.toUInt8] ++ T.name.data.toList else []) ++ ([T.args.length.toUInt8] ++ wrL T.args)):=by
 obtain ⟨k,n,s,ts⟩:=T;rw [wrT];rfl
theorem wrL_step {ts:List Ty} {k:Nat} (hk:k < ts.length):wrL (ts.drop k)=wrT ts[k] ++ wrL (ts.drop (k+1)):=by
 rw [List.drop_eq_getElem_cons hk,wrL]
theorem shortT_name {T:Ty} (h:shortT T=true):T.name.size≤255:=by
 rw [shortT_eq,Bool.and_eq_true] at h;exact of_decide_eq_true h.1
theorem shortT_args {T:Ty} (h:shortT T=true):T.args.length≤255:=by
 rw [shortT_eq,Bool.and_eq_true,Bool.and_eq_true] at h;exact of_decide_eq_true h.2.1
theorem shortT_arg {T:Ty} (h:shortT T=true) {t:Ty} (ht:t∈T.args):shortT t=true:=by
 rw [shortT_eq,Bool.and_eq_true,Bool.and_eq_true] at h
 have key:∀ ts:List Ty,shortL ts=true→∀ t∈ts,shortT t=true:=by
  intro ts
  induction ts with
  | nil=>intro _ t ht;simp at ht
  | cons a ts ih =>
   intro h t ht
   rw [shortL,Bool.and_eq_true] at h
   rcases List.mem_cons.1 ht with rfl|ht
   ·exact h.1
   ·exact ih h.2 t ht
 exact key _ h.2.2 t ht
theorem wrT_len (T:Ty):shortT T=true→(wrT T).length≤300 * T.parts:=by
 induction T using Ty.ind with
 | h T ih =>
  intro h
  rw [wrT_eq,T.parts_eq]
  have h1:=shortT_name h
  have key:∀ ts:List Ty,(∀ t∈ts,(wrT t).length≤300 * t.parts)→(wrL ts).length≤300 * partsL ts:=by
   intro ts
   induction ts with
   | nil=>intro _;simp [wrL]
   | cons a ts ih =>
    intro h
    rw [wrL,partsL,List.length_append]
    have:=h a (by simp)
    have:=ih fun t ht=>h t (by simp [ht])
    omega
  have h2:=key T.args fun t ht=>by obtain ⟨i,hi,rfl⟩:=List.getElem_of_mem ht;exact ih i hi (shortT_arg h (List.getElem_mem hi))
  have h3:T.name.data.toList.length=T.name.size:=by rw [Array.length_toList];rfl
  split
  ·simp [be4_lengthQ];omega
  ·split
   ·simp only [List.length_append,List.length_singleton];omega
   ·simp only [List.length_append,List.length_singleton,List.length_nil];omega
end Go.Typ
namespace Go.Proofs.YtaalbcfpacpgfaaGreat
open Go.RowKit Go.Lib Go.Vfs Go.Par Go.Typ Go.Shelf
theorem ret_boolQ {a b:Bool} (h:a=b):Ending.returned (.bool a)=.returned (.bool b):=by rw [h]
theorem byteEQ:Elem Tryz.prog 24 5 (.int .u8 0):=elem_of (b:=1) Tryz.underlying24 (by kernel_rfl) (by decide) rfl
theorem byteCells_appendQ (a b:List UInt8):byteCells (a ++ b)=byteCells a ++ byteCells b:=by simp [byteCells]
set_option maxHeartbeats 400000 in
theorem sameBytes_anyQ (u v:Value) (xs ys:List UInt8) (B:Nat) (w:World) (hu:Seg w B u (Lib.byteCells xs)) (hv:Seg w B v (Lib.byteCells ys)) :
  Calls Tryz.prog 40 #[u,v] w fun e w'=>e=.returned (.bool (decide (xs=ys)))∧∃ n,w'=w.drewN n:=by
 obtain ⟨A,c,rfl,hc,hm,ha⟩:=hu.open_bytes
 obtain ⟨A',c',rfl,hc',hm',ha'⟩:=hv.open_bytes
 clear hu hv
 by_cases hl:xs.length=ys.length
 ·have hne:((xs.length:Int) != (ys.length:Int))=false:=by simp [hl]
  have Hl:=Lib.hid hl
  clear hl
  go_enter Tryz.func40,Tryz.ntmps40
  go_wp2
  go_loopw [5] (fun i wr=>∃ k n:Nat,k≤xs.length∧i=.int .i64 k∧Agree k xs ys∧wr=w.drewN n) (fun i _=>xs.length - (RowKit.intOf i).toNat)
  case atStart=>exact ⟨0,0,by omega,rfl,Agree.zero _ _,rfl⟩
  case round =>
   obtain ⟨k,n,hk,rfl,hal,rfl⟩:=hrel
   by_cases hlt:k < xs.length
   ·have hlt':k < ys.length:=by have:=Hl.out;omega
    obtain ⟨b,off,x,rfl,hb,hc1,hx,Hx⟩:=ha.byte hlt
    obtain ⟨b',off',y,rfl,hb',hc2,hy,Hy⟩:=ha'.byte hlt'
    have HA:=Lib.hid ha;clear ha
    have HA':=Lib.hid ha';clear ha'
    by_cases he:x=y
    ·have hbe:((x:Int) != (y:Int))=false:=by simp [he]
     have He:=Lib.hid he
     clear he
     go_wp2
     go_quiet (fail)
     go_wp2
     go_roundw
     case rel=>exact ⟨k+1,_,by omega,by go_num,hal.step hlt hlt' 0 (UInt8.toNat_inj.1 (by rw [Hx.out,Hy.out,He.out])),rfl⟩
     case measure=>simp [RowKit.intOf];omega
    ·have hbe:((x:Int) != (y:Int))=true:=by simp;omega
     have He:=Lib.hid he
     clear he
     go_wp2
     go_quiet (fail)
     go_wp2
     go_ret
     refine ⟨ret_boolQ ?_,_,World.drewN_drewN _ _ _⟩
     have h1:=Hx.out
     have h2:=Hy.out
     have h3:=He.out
     simp
     rintro rfl
     exact h3 (h1.symm.trans h2)
   ·have hkl:k=xs.length:=by omega
    have Hk:=Lib.hid hkl
    clear hkl
    go_wp2
    go_ret
    refine ⟨ret_boolQ ?_,_,rfl⟩
    rw [Hk.out] at hal
    simp [hal.whole Hl.out]
 ·have hne:((xs.length:Int) != (ys.length:Int))=true:=by simp;omega
  have Hl:=Lib.hid hl
  clear hl
  go_enter Tryz.func40,Tryz.ntmps40
  go_wp2
  go_ret
  refine ⟨ret_boolQ ?_,0,rfl⟩
  have:=Hl.out
  simp
  rintro rfl
  exact this rfl
theorem cell_u8 (n:Nat) (x:Int) (h:x=((n % 256:Nat):Int)):[Value.int .u8 x]=byteCells [n.toUInt8]:=by
 subst h
 simp [byteCells,UInt8.toNat_ofNat']
theorem cells_be4 (n:Nat) (hn:n < 4294967296):byteCells (be4Q n)=[.int .u8 ((n:Int) / 16777216 % 256),.int .u8 ((n:Int) / 65536 % 256),.int .u8 ((n:Int) / 256 % 256),.int .u8 ((n:Int) % 256)]:=by
 unfold byteCells be4Q
 simp only [List.map_cons,List.map_nil]
 have key:∀ m:Nat,(m % 256).toUInt8.toNat=m % 256:=fun m=>by
  show (UInt8.ofNat (m % 256)).toNat=_
  rw [UInt8.toNat_ofNat'];omega
 rw [key,key,key,key]
 rfl
section
variable {P:Program} (w:World)
theorem wpList_app_str {ops:Array Oper} {rest:List Oper} {o:Oper} {a:Act} {Q:Exit→Act→World→Prop} (hgd:o.guard=none) (sl x:Operand) (t u:TypeId)
  (ho:o.op=.call { callee:=.builtin .append,args:=#[sl,x],argTypes:=#[t,u] })
  (base:Nat) (e:TypeId) (i:TypeInfo) (ht:P.underlying t=some (.slice e)) (hu:P.underlying u=some .string) (hi:P.info? e=some i) (hz:i.zero=some (.int .u8 0))
  (hsize:i.size=1) (hby:i.bytes=1)
  (v:Value) (xs:List Value) (hs:a.eval sl=v) (hown:Par.Own w base e v xs) (s:ByteArray) (hx:a.eval x=.string s)
  (hbytes:xs.length+s.size≤140737488355328) (hbase:base≤w.heap.size)
  (h:∀ v' w',Par.Own w' base e v' (xs ++ strCells s)→w.grownBy w' v.ownBlock→(v'.ownBlock=v.ownBlock∨v'.ownBlock=some w.heap.size)→wpList P ops Q rest (a.put o.dst v') w'):wpList P ops Q (o :: rest) a w:=by
 refine wpList_plain hgd fun K hK=>?_
 obtain ⟨v',w',hr,h2,h3,h4⟩:=run_append_own_string (P:=P) w base t u o.type e i ht hu hi hz hsize hby v xs.length xs hown s (by simp only [maxLen];omega) hbytes hbase
 have hat:v'.ownBlock=v.ownBlock∨v'.ownBlock=some w.heap.size:=by
  rcases hown.2 with ⟨rfl,hn⟩|⟨g,cap,cur,rfl,hbg,hg,hnc,hcm,hcs,htake⟩
  ·by_cases hm:s.size=0
   ·have:=h4.2 ⟨rfl,hm⟩
    rw [this];exact .inl rfl
   ·have hr2:=run_append_nil_string (P:=P) w t u o.type e i (.int .u8 0) ht hu hi hz s (by omega) (by omega) (by rw [hby];omega)
    rw [hr2] at hr
    injection hr with e1 _
    rw [←e1];exact .inr rfl
  ·by_cases hroom:xs.length+s.size≤cap
   ·have hcs':cur.size=cap:=by simpa using hcs
    have hr2:=run_append_room_string (P:=P) w t u o.type e i ht hu hi hsize g xs.length cap cur hg s hroom (by omega)
    rw [hr2] at hr
    injection hr with e1 _
    rw [←e1];exact .inl rfl
   ·have holds:∀ j u,xs[j]? = some u→w.cell? ((⟨g,0,none⟩:Addr).add j)=some u:=World.ownsRow.cells hown (g:=g) rfl
    have hr2:=run_append_grow_string (P:=P) w t u o.type e i (.int .u8 0) ht hu hi hz ⟨g,0,none⟩ xs.length cap xs (by rw [hsize];simp) holds s (by omega) (by omega) (by rw [hby];exact growslice_fits (by omega) (by omega))
    rw [hr2] at hr
    injection hr with e1 _
    rw [←e1];exact .inr rfl
 unfold Oper.wp execOp
 simp only [ho,resolve,invoke,builtin,Sem.run_bind,Sem.run_pure,Result.andThen_ok,List.map_toArray,List.map_cons,List.map_nil,hs,hx,hr]
 refine hK _ _ (h v' w' ?_ h3 hat)
 unfold Par.Own
 rw [List.length_append,strCells_length]
 exact h2
end
theorem strCells_bytes (s:ByteArray):strCells s=byteCells s.data.toList:=rfl
structure WS (B:Nat) (W1:World) (bv:Value) (cur:List UInt8) (sv:Value) (W:World):Prop where
 own:Par.Own W B 5 sv (byteCells cur)
 gr:Gr W1 W bv sv
theorem WS.app {B:Nat} {W1 W W':World} {bv sv v':Value} {cur xs:List UInt8} {o:Obj} (h:WS B W1 bv cur sv W) (hown:Par.Own W' B 5 v' (byteCells cur ++ byteCells xs)) (hg:(W.alloc o).grownBy W' sv.ownBlock)
  (hat:v'.ownBlock=sv.ownBlock∨v'.ownBlock=some (W.alloc o).heap.size):WS B W1 bv (cur ++ xs) v' W' :=
 ⟨by rw [byteCells_appendQ];exact hown,h.gr.trans (Gr.app hg hat)⟩
theorem WS.app0 {B:Nat} {W1 W W':World} {bv sv v':Value} {cur xs:List UInt8} (h:WS B W1 bv cur sv W) (hown:Par.Own W' B 5 v' (byteCells cur ++ byteCells xs)) (hg:W.grownBy W' sv.ownBlock)
  (hat:v'.ownBlock=sv.ownBlock∨v'.ownBlock=some W.heap.size):WS B W1 bv (cur ++ xs) v' W' :=
 ⟨by rw [byteCells_appendQ];exact hown,h.gr.trans ⟨hg,hat.imp_right fun h g e=>by rw [h] at e;injection e with e;omega⟩⟩
theorem WS.form {B:Nat} {W1 W:World} {bv sv:Value} {cur:List UInt8} (h:WS B W1 bv cur sv W):∃ A c,sv=.slice A cur.length c:=by
 obtain ⟨A,c,e⟩:=h.own.form
 rw [byteCells_length] at e
 exact ⟨A,c,e⟩
theorem seg_u8 (W:World) (n:Nat) (hn:n < 256):Seg (W.alloc (.cells #[.int .u8 (n:Int)] 5)) (W.heap.size+1) (.slice (some ⟨W.heap.size,0,none⟩) 1 1) (byteCells [n.toUInt8]):=by
 have h:=Seg.new W 5 #[.int .u8 (n:Int)] (byteCells [n.toUInt8]) (by rw [←cell_u8 n (n:Int) (by omega)]) (by simp [byteCells,maxLen])
 simpa [byteCells] using h
set_option maxRecDepth 20000 in
set_option maxHeartbeats 4000000 in
theorem written_any (B:Nat) (T:Ty):∀ (bs:List UInt8) (bv v:Value) (w:World),B≤w.heap.size→TyAt (· < B) w v T→Par.Own w B 5 bv (byteCells bs)→FitAll T→shortT T=true→bs.length+300 * T.parts≤2000000000 →
  Calls Tryz.prog 118 #[bv,v] w fun e w'=>∃ v',e=.returned v'∧Par.Own w' B 5 v' (byteCells (bs ++ wrT T))∧Gr w w' bv v':=by
 induction T using Ty.ind with
 | h T ih =>
  intro bs bv v w hB hT hO hF hS hp
  have IH:=Lib.hid ih
  clear ih
  obtain ⟨A,c,rfl,hc,hm,hn⟩:=hT.form
  obtain ⟨Am,cm,rfl⟩:=hO.form
  rw [byteCells_length] at hO ⊢
  obtain ⟨W1,hW1⟩:∃ W1,W1=w.alloc (.cells #[.int .i64 T.kind,.int .i64 T.num,.string T.name,.slice A T.args.length c] 61):=⟨_,rfl⟩
  have hb1:Below w.heap.size w W1:=by rw [hW1];exact (Below.refl _ _).alloc (Nat.le_refl _) _
  have hbx:W1.heap[w.heap.size]? = some (.cells #[.int .i64 T.kind,.int .i64 T.num,.string T.name,.slice A T.args.length c] 61 (0,0)):=by rw [hW1];exact heap_alloc_new _ _
  have hz1:W1.heap.size=w.heap.size+1:=by rw [hW1];simp
  have hT1:TyAt (· < B) W1 (tyV T.kind T.num T.name A T.args.length c) T:=hT.keep fun g hg=>⟨hg,hb1.block g (by omega)⟩
  have hO1:=hO.below hb1
  have HBX:=Lib.hid hbx;have HP:=Lib.hid hp;have HZ1:=Lib.hid hz1;have HT1:=Lib.hid hT1;have HB1:=Lib.hid hb1;have HB:=Lib.hid hB;have HFA:=Lib.hid hF;have HSH:=Lib.hid hS
  have HOL:Hid (∀ g,(Value.slice Am bs.length cm).ownBlock=some g→B≤g∧g < w.heap.size):=Lib.hid hO.lt
  obtain ⟨y0,y1,y2,y3⟩:=box4 hbx
  have hnl:=shortT_name hS
  have hal:=shortT_args hS
  have hpp:=T.parts_pos
  have hfs:=hF.self
  clear hT hbx hp hT1 hb1 hc hm hn hO hF hS
  unfold tyV
  obtain ⟨kn,hkn,hk1,hk4⟩:∃ kn:Nat,T.kind=(kn:Int)∧1≤kn∧kn≤4:=by
   obtain ⟨k,n,s,ts⟩:=T
   rcases fits_kinds hfs with ⟨h,_⟩|⟨h,_⟩|⟨h,_⟩|⟨h,_⟩
   ·exact ⟨1,h,by omega,by omega⟩
   ·exact ⟨2,h,by omega,by omega⟩
   ·exact ⟨3,h,by omega,by omega⟩
   ·exact ⟨4,h,by omega,by omega⟩
  have HWS:Hid (WS B W1 (.slice Am bs.length cm) bs (.slice Am bs.length cm) W1):=Lib.hid ⟨hO1,Gr.refl _ _⟩
  have hwk:IntKind.u8.wrap (kn:Int)=(kn:Int):=by unfold IntKind.wrap;simp [IntKind.signed,IntKind.bits];omega
  have hsg:=seg_u8 W1 kn (by omega)
  have hal1:∀ o,Par.Own (W1.alloc o) B 5 (.slice Am bs.length cm) (byteCells bs):=fun o=>hO1.alloc o
  have hbl:bs.length≤2000000000:=by have:=HP.out;omega
  have hzB:B≤W1.heap.size:=by have:=HB.out;omega
  have HBK:Hid (∀ cur sv W,WS B W1 (.slice Am bs.length cm) cur sv W→W.heap[w.heap.size]? = some (.cells #[.int .i64 T.kind,.int .i64 T.num,.string T.name,.slice A T.args.length c] 61 (0,0))∧TyAt (· < B) W (tyV T.kind T.num T.name A T.args.length c) T∧B≤W.heap.size):=Lib.hid fun cur sv W h=>by
   have hbb:=h.gr.below hzB fun g e=>(HOL.out g e).1
   exact ⟨(h.gr.block (by omega) (fun e=>by have:=(HOL.out _ e).2;omega)).trans HBX.out,HT1.out.keep fun g hg=>⟨hg,hbb.block g hg⟩,by have:=hbb.size;omega⟩
  clear hz1
  rw [hkn] at y0 hW1 HBK ⊢
  rw [hW1] at y0 y1 y2 y3
  clear hO1
  go_enter Tryz.func118,Tryz.ntmps118
  go_upto_region 1 with fail
  rw [←hW1]
  clear hW1 y0 y1 y2 y3
  obtain ⟨y0,y1,y2,y3⟩:=box4 (HBK.out _ _ _ HWS.out).1
  go_upto_region 2 with (at_builtin;refine wpList_app _ rfl _ _ _ rfl B 5 _ byteEQ _ _ rfl (hal1 _) _ _ _ rfl hsg (one_bytes _) ?c1 ?c2 ?_)
  case c1=>rw [byteCells_length];simp [byteCells];omega
  case c2=>simp;omega
  intro v2 w2 hown2 hg2 hat2
  have hws2:=WS.app (xs:=[kn.toUInt8]) HWS.out hown2 hg2 (by rw [World.size_alloc];exact hat2)
  obtain ⟨cur2,hcur2⟩:∃ cur2,cur2=bs ++ [kn.toUInt8]:=⟨_,rfl⟩
  have hcl2:cur2.length=bs.length+1:=by rw [hcur2];simp
  rw [←hcur2] at hws2
  obtain ⟨A2,c2,rfl⟩:=hws2.form
  have HWS2:=Lib.hid hws2
  have HCUR2:=Lib.hid hcur2
  have hc2b:cur2.length≤bs.length+1:=by omega
  obtain ⟨y0,y1,y2,y3⟩:=box4 (HBK.out _ _ _ hws2).1
  have hz2B:=(HBK.out _ _ _ hws2).2.2
  clear hcur2 hws2 hown2 hg2 hat2 hsg hal1 hcl2 hwk HWS
  by_cases h1:kn=1
  ·subst h1
   obtain ⟨nn,hnn,hnb⟩:∃ nn:Nat,T.num=(nn:Int)∧nn < 1073741824:=by
    obtain ⟨k,n,s,ts⟩:=T
    rcases fits_kinds hfs with ⟨_,h0,h1,_⟩|⟨h,_⟩|⟨h,_⟩|⟨h,_⟩
    ·have h0:0≤n:=h0
     have h1:n < 1073741824:=h1
     exact ⟨n.toNat,by show n=_;omega,by omega⟩
    all_goals (rw [hkn] at h;cases h)
   have HFIN:Hid (bs ++ wrT T=cur2 ++ be4Q nn):=Lib.hid (by
    rw [wrT_eq,hkn,if_pos (show ((1:Nat):Int)=1 from rfl),HCUR2.out,hnn,Int.toNat_natCast,List.append_assoc]
    rfl)
   rw [hnn] at y1
   have hal2:∀ o,Par.Own (w2.alloc o) B 5 (.slice A2 cur2.length c2) (byteCells cur2):=fun o=>HWS2.out.own.alloc o
   have hsg4:Seg (w2.alloc (.cells #[.int .u8 ((nn:Int) / 16777216),.int .u8 ((nn:Int) / 65536 % 256),.int .u8 ((nn:Int) / 256 % 256),.int .u8 ((nn:Int) % 256)] 5)) (w2.heap.size+1) (.slice (some ⟨w2.heap.size,0,none⟩) 4 4) (byteCells (be4Q nn)):=by
    have h:=Seg.new w2 5 #[.int .u8 ((nn:Int) / 16777216),.int .u8 ((nn:Int) / 65536 % 256),.int .u8 ((nn:Int) / 256 % 256),.int .u8 ((nn:Int) % 256)] (byteCells (be4Q nn)) (by
     rw [cells_be4 nn (by omega),show (nn:Int) / 16777216 % 256=(nn:Int) / 16777216 by omega]) (by rw [byteCells_length,be4_lengthQ];simp [maxLen])
    rw [byteCells_length,be4_lengthQ] at h
    exact h
   go_wp2_with (at_builtin;refine wpList_app _ rfl _ _ _ rfl B 5 _ byteEQ _ _ rfl (hal2 _) _ _ _ rfl hsg4 (one_bytes _) ?c1 ?c2 ?_)
   case c1=>rw [byteCells_length,byteCells_length,be4_lengthQ];omega
   case c2=>simp;omega
   intro v3 w3 hown3 hg3 hat3
   have hws3:=WS.app (xs:=be4Q nn) HWS2.out hown3 hg3 (by rw [World.size_alloc];exact hat3)
   have HE:Hid (Par.Own w3 B 5 v3 (byteCells (bs ++ wrT T))∧Gr w w3 (.slice Am bs.length cm) v3):=Lib.hid ⟨by rw [HFIN.out];exact hws3.own,(Gr.of_below HB1.out _).trans hws3.gr⟩
   clear hws3 hown3 hg3 hat3
   go_wp2
   go_ret
   exact ⟨_,rfl,HE.out.1,HE.out.2⟩
  ·have hk1f:((kn:Int) == 1)=false:=by simp;omega
   have hwa:IntKind.u8.wrap (T.args.length:Int)=(T.args.length:Int):=by unfold IntKind.wrap;simp [IntKind.signed,IntKind.bits];omega
   by_cases h2:kn=2
   focus
    subst h2
    have hwn:IntKind.u8.wrap (T.name.size:Int)=(T.name.size:Int):=by unfold IntKind.wrap;simp [IntKind.signed,IntKind.bits];omega
    have hsg3:=seg_u8 w2 T.name.size (by omega)
    have hal2:∀ o,Par.Own (w2.alloc o) B 5 (.slice A2 cur2.length c2) (byteCells cur2):=fun o=>HWS2.out.own.alloc o
    go_upto_region 6 with (at_builtin;refine wpList_app _ rfl _ _ _ rfl B 5 _ byteEQ _ _ rfl (hal2 _) _ _ _ rfl hsg3 (one_bytes _) ?c1 ?c2 ?_)
    case c1=>rw [byteCells_length];simp [byteCells];omega
    case c2=>simp;omega
    intro v3 w3 hown3 hg3 hat3
    have hws3:=WS.app (xs:=[T.name.size.toUInt8]) HWS2.out hown3 hg3 (by rw [World.size_alloc];exact hat3)
    obtain ⟨cur3,hcur3⟩:∃ cur3,cur3=cur2 ++ [T.name.size.toUInt8]:=⟨_,rfl⟩
    have hcl3:cur3.length≤bs.length+2:=by rw [hcur3];simp;omega
    rw [←hcur3] at hws3
    obtain ⟨A3,c3,rfl⟩:=hws3.form
    have HWS3:=Lib.hid hws3
    have HCUR3:=Lib.hid hcur3
    clear y0 y1 y2 y3
    obtain ⟨y0,y1,y2,y3⟩:=box4 (HBK.out _ _ _ hws3).1
    have hz3B:=(HBK.out _ _ _ hws3).2.2
    have hown3:=hws3.own
    clear hcur3 hws3 hg3 hat3 hsg3 hal2 hwn
    obtain ⟨i0,hi,hz0,hz1,hz2⟩:=byteInfo
    go_upto_region 7 with (at_builtin;refine wpList_app_str _ rfl _ _ 24 9 rfl B 5 i0 Tryz.underlying24 Tryz.underlying9 hi hz0 hz1 hz2 _ _ rfl hown3 T.name rfl ?c3 ?c5 ?_)
    case c3=>rw [byteCells_length];omega
    case c5=>omega
    intro v4 w4 hown4 hg4 hat4
    rw [strCells_bytes] at hown4
    have hws4:=WS.app0 (xs:=T.name.data.toList) HWS3.out hown4 hg4 hat4
    obtain ⟨cur4,hcur4⟩:∃ cur4,cur4=cur3 ++ T.name.data.toList:=⟨_,rfl⟩
    have hcl4:cur4.length≤bs.length+257:=by
     have h3:T.name.data.toList.length=T.name.size:=by rw [Array.length_toList];rfl
     rw [hcur4,List.length_append,h3];omega
    have HPRE:Hid (bs ++ wrT T=cur4 ++ ([T.args.length.toUInt8] ++ wrL T.args)):=Lib.hid (by
     rw [wrT_eq,hkn,if_neg (show ¬ ((2:Nat):Int)=1 by decide),if_pos (show ((2:Nat):Int)=2 from rfl),hcur4,HCUR3.out,HCUR2.out]
     simp only [List.append_assoc]
     rfl)
    rw [←hcur4] at hws4
    clear y0 y1 y2 y3 hcur4 hown4 hg4 hat4 hown3 HCUR3 HWS3 hz3B
   rotate_left
   focus
    have hk2f:((kn:Int) == 2)=false:=by simp;omega
    have HPRE:Hid (bs ++ wrT T=cur2 ++ ([T.args.length.toUInt8] ++ wrL T.args)):=Lib.hid (by
     rw [wrT_eq,hkn,if_neg (show ¬ ((kn:Nat):Int)=1 by omega),if_neg (show ¬ ((kn:Nat):Int)=2 by omega),HCUR2.out,Int.toNat_natCast]
     simp only [List.append_assoc,List.nil_append])
    go_upto_region 7 with fail
    have hws4:=HWS2.out
    obtain ⟨cur4,hcur4⟩:∃ cur4,cur4=cur2:=⟨_,rfl⟩
    have hcl4:cur4.length≤bs.length+257:=by rw [hcur4];omega
    obtain ⟨w4,hw4⟩:∃ w4,w4=w2:=⟨_,rfl⟩
    obtain ⟨v4,hv4⟩:∃ v4,v4=Value.slice A2 cur2.length c2:=⟨_,rfl⟩
    rw [←hcur4] at HPRE hws4
    rw [←hw4] at hws4
    rw [←hcur4] at hv4
    rw [←hv4] at hws4
    rw [←hcur4,←hv4,←hw4]
    clear y0 y1 y2 y3 hcur4 hw4 hv4 hk2f
   all_goals
    obtain ⟨A4,c4,rfl⟩:=hws4.form
    have HWS4:=Lib.hid hws4
    obtain ⟨y0,y1,y2,y3⟩:=box4 (HBK.out _ _ _ hws4).1
    have hz4B:=(HBK.out _ _ _ hws4).2.2
    have hsg5:=seg_u8 w4 T.args.length (by omega)
    have hal5:∀ o,Par.Own (w4.alloc o) B 5 (.slice A4 cur4.length c4) (byteCells cur4):=fun o=>HWS4.out.own.alloc o
    clear hws4
    go_upto_region 8 with (at_builtin;refine wpList_app _ rfl _ _ _ rfl B 5 _ byteEQ _ _ rfl (hal5 _) _ _ _ rfl hsg5 (one_bytes _) ?c1 ?c2 ?_)
    case c1=>rw [byteCells_length];simp [byteCells];omega
    case c2=>simp;omega
    intro v5 w5 hown5 hg5 hat5
    have hws5:=WS.app (xs:=[T.args.length.toUInt8]) HWS4.out hown5 hg5 (by rw [World.size_alloc];exact hat5)
    obtain ⟨cur5,hcur5⟩:∃ cur5,cur5=cur4 ++ [T.args.length.toUInt8]:=⟨_,rfl⟩
    rw [←hcur5] at hws5
    have HEQ5:Hid (cur5 ++ wrL (T.args.drop 0)=bs ++ wrT T):=Lib.hid (by rw [List.drop_zero,HPRE.out,hcur5,List.append_assoc])
    have HLE5:Hid (cur5.length+300 * partsL (T.args.drop 0)≤bs.length+300 * T.parts):=Lib.hid (by
     rw [List.drop_zero,hcur5,List.length_append,T.parts_eq];simp;omega)
    have HWS5:=Lib.hid hws5
    obtain ⟨y0',y1',y2',y3'⟩:=box4 (HBK.out _ _ _ hws5).1
    clear y0 y1 y2 y3 hws5 hcur5 hown5 hg5 hat5 hal5 hsg5 hwa HPRE hcl4 hk1f hnl h1
    go_wp2
    clear y0' y1' y2' y3'
    go_loopw [0,58] (fun sv iv W=>∃ (k:Nat) (cur:List UInt8),k≤T.args.length∧iv=.int .i64 k∧Hid (WS B W1 (.slice Am bs.length cm) cur sv W)∧Hid (cur ++ wrL (T.args.drop k)=bs ++ wrT T)∧Hid (cur.length+300 * partsL (T.args.drop k)≤bs.length+300 * T.parts)) (fun _ iv _=>T.args.length - (RowKit.intOf iv).toNat)
    case atStart=>exact ⟨0,cur5,by omega,rfl,HWS5,HEQ5,HLE5⟩
    case round =>
     obtain ⟨k,cur,hk,rfl,HWSR,HEQ,HLE⟩:=hrel
     obtain ⟨As,cs,es⟩:=HWSR.out.form
     subst es
     by_cases hlt:k < T.args.length
     ·obtain ⟨-,htr,hzr⟩:=HBK.out _ _ _ HWSR.out
      obtain ⟨b,off,A',c',rfl,hb,ht,x0,x1,x2,x3⟩:=htr.arg hlt
      obtain ⟨W2,hW2⟩:∃ W2,W2=wr.alloc (.cells #[.int .i64 T.args[k].kind,.int .i64 T.args[k].num,.string T.args[k].name,.slice A' T.args[k].args.length c'] 61):=⟨_,rfl⟩
      have hb2:Below wr.heap.size wr W2:=by rw [hW2];exact (Below.refl _ _).alloc (Nat.le_refl _) _
      have heq:=HEQ.out
      rw [wrL_step hlt] at heq
      have hps:=partsL_step hlt
      have hwl:=wrT_len T.args[k] (shortT_arg HSH.out (List.getElem_mem hlt))
      have hle:=HLE.out
      have hca:=IH.out k hlt cur (.slice As cur.length cs) _ W2 (by have:=hb2.size;omega) (ht.keep fun g hg=>⟨hg,hb2.block g (by omega)⟩) (HWSR.out.own.below hb2) (HFA.out.arg hlt) (shortT_arg HSH.out (List.getElem_mem hlt)) (by have:=HP.out;omega)
      obtain ⟨z0,z1,z2,z3⟩:=box4 (show W2.heap[wr.heap.size]? = some (.cells #[.int .i64 T.args[k].kind,.int .i64 T.args[k].num,.string T.args[k].name,.slice A' T.args[k].args.length c'] 61 (0,0)) by rw [hW2];exact heap_alloc_new _ _)
      have HNX:Hid ((cur ++ wrT T.args[k]) ++ wrL (T.args.drop (k+1))=bs ++ wrT T):=Lib.hid (by rw [List.append_assoc];exact heq)
      have HLX:Hid ((cur ++ wrT T.args[k]).length+300 * partsL (T.args.drop (k+1))≤bs.length+300 * T.parts):=Lib.hid (by rw [List.length_append];omega)
      have HG2:Hid (Gr W1 W2 (.slice Am bs.length cm) (.slice As cur.length cs)):=Lib.hid (HWSR.out.gr.trans (Gr.of_below hb2 _))
      clear ht htr heq hps hwl hle hb2
      generalize cur ++ wrT T.args[k]=cur2n at *
      generalize T.args[k]=V at *
      unfold tyV at hca
      have HCA:=Lib.hid hca
      rw [hW2] at z0 z1 z2 z3
      clear hca
      go_wp2_with fail
      rw [←hW2]
      clear hW2 z0 z1 z2 z3
      refine HCA.out.mono ?_
      rintro e w6 ⟨v6,rfl,hO6,hg6⟩
      have HWS6:Hid (WS B W1 (.slice Am bs.length cm) cur2n v6 w6):=Lib.hid ⟨hO6,HG2.out.trans hg6⟩
      clear hO6 hg6
      go_wp2
      go_roundw
      case rel=>exact ⟨k+1,cur2n,by omega,by go_num,HWS6,HNX,HLX⟩
      case measure=>simp [RowKit.intOf];omega
     ·have hkl:k=T.args.length:=by omega
      have heq:=HEQ.out
      rw [hkl,List.drop_length,wrL,List.append_nil] at heq
      have HE:Hid (Par.Own wr B 5 (.slice As cur.length cs) (byteCells (bs ++ wrT T))∧Gr w wr (.slice Am bs.length cm) (.slice As cur.length cs)):=Lib.hid ⟨by rw [←heq];exact HWSR.out.own,(Gr.of_below HB1.out _).trans HWSR.out.gr⟩
      clear heq
      go_wp2
      go_ret
      exact ⟨_,rfl,HE.out.1,HE.out.2⟩
end Go.Proofs.YtaalbcfpacpgfaaGreat
namespace Go.Typ
def exB (x:Ex):List UInt8:=[x.name.size.toUInt8] ++ (x.name.data.toList ++ wrT x.ty)
def exsB:List Ex→List UInt8
 | []=>[]
 | x :: xs=>exB x ++ exsB xs
def encX (xs:List Ex):List UInt8:=[(xs.length / 256).toUInt8,xs.length.toUInt8] ++ exsB xs
theorem exsB_step {xs:List Ex} {k:Nat} (hk:k < xs.length):exsB (xs.drop k)=exB xs[k] ++ exsB (xs.drop (k+1)):=by
 rw [List.drop_eq_getElem_cons hk,exsB]
end Go.Typ
namespace Go.Proofs.YtaalbcfpacpgfaaGreat
open Go.RowKit Go.Lib Go.Vfs Go.Par Go.Typ Go.Shelf
theorem rightX_len {xs:List Ex} (h:rightX xs=true):xs.length≤1000:=by
 unfold rightX at h
 rw [Bool.and_eq_true] at h
 exact of_decide_eq_true h.1
theorem rightX_good {xs:List Ex} (h:rightX xs=true) {k:Nat} (hk:k < xs.length):goodX xs k=true:=by
 unfold rightX at h
 rw [Bool.and_eq_true,List.all_eq_true] at h
 exact h.2 k (List.mem_range.2 hk)
theorem rightX_each {xs:List Ex} (h:rightX xs=true) {k:Nat} (hk:k < xs.length):xs[k].name.size≤255∧nameOk xs[k].name.data.toList=true∧closedT xs[k].ty=true∧shortT xs[k].ty=true:=by
 have hg:=rightX_good h hk
 rw [goodX_at hk] at hg
 simp only [okX,typX,Bool.and_eq_true] at hg
 exact ⟨of_decide_eq_true hg.1.1,hg.1.2,hg.2.2.1,hg.2.2.2⟩
theorem closedT_right {T:Ty} (h:closedT T=true):rightT T=true:=by
 unfold closedT at h
 rw [Bool.and_eq_true] at h
 exact h.1
def EncPost (xs:List Ex) (w:World) (e:Ending) (w':World):Prop :=
 ∃ v',e=.returned (.tuple #[v',.int .i64 (if rightX xs then 0 else 140)])∧Below w.heap.size w w'∧(rightX xs=true→Par.Own w' w.heap.size 5 v' (byteCells (encX xs)))∧(rightX xs=false→v'=.slice none 0 0)
set_option maxRecDepth 20000 in
set_option maxHeartbeats 4000000 in
theorem encode_any (xs:List Ex) (v:Value) (w:World) (hX:ExsAt (· < w.heap.size) w v xs):Calls Tryz.prog 75 #[v] w (EncPost xs w):=by
 obtain ⟨P,hP⟩:∃ P,P=EncPost xs w:=⟨_,rfl⟩
 have HPO:=Lib.hid hP
 rw [←hP]
 clear hP
 obtain ⟨A,c,rfl,hc,hm⟩:=hX.form
 have hla:xs.length≤9223372036854775807:=by simp only [maxLen] at hm;omega
 have HRI:=Lib.hid (right14_any xs _ w hX)
 have HX:=Lib.hid hX
 clear hX hc hm
 go_enter Tryz.func75,Tryz.ntmps75
 go_wp2_with fail
 refine HRI.out.mono ?_
 rintro e w2 ⟨rfl,hb2⟩
 have HB2:=Lib.hid hb2
 have hz2:=hb2.size
 clear hb2
 by_cases hr:rightX xs=true
 rotate_left
 ·have hr':rightX xs=false:=by simpa using hr
  have HE:Hid (P (.returned (.tuple #[.slice none 0 0,.int .i64 140])) w2):=Lib.hid (by
   rw [HPO.out]
   unfold EncPost
   refine ⟨.slice none 0 0,by rw [hr'];rfl,HB2.out,fun h=>?_,fun _=>rfl⟩
   rw [hr'] at h;cases h)
  rw [hr']
  clear hr hr'
  go_wp2
  exact HE.out
 have hl:=rightX_len hr
 have HRT:=Lib.hid hr
 rw [hr]
 clear hr
 obtain ⟨n,hn⟩:∃ n,n=xs.length:=⟨_,rfl⟩
 obtain ⟨W3,hW3⟩:∃ W3,W3=w2.alloc (.cells #[.int .u8 ((xs.length:Int) / 256),.int .u8 ((xs.length:Int) % 256)] 5):=⟨_,rfl⟩
 have hb3:Below w2.heap.size w2 W3:=by rw [hW3];exact (Below.refl _ _).alloc (Nat.le_refl _) _
 have hown3:Par.Own W3 w.heap.size 5 (.slice (some ⟨w2.heap.size,0,none⟩) 2 2) (byteCells [(xs.length / 256).toUInt8,xs.length.toUInt8]):=by
  rw [hW3]
  have h:=Par.Own.new w2 w.heap.size 5 #[.int .u8 ((xs.length:Int) / 256),.int .u8 ((xs.length:Int) % 256)] (byteCells [(xs.length / 256).toUInt8,xs.length.toUInt8]) (by
   rw [show byteCells [(xs.length / 256).toUInt8,xs.length.toUInt8]=byteCells [(xs.length / 256).toUInt8] ++ byteCells [xs.length.toUInt8] from rfl,←cell_u8 (xs.length / 256) ((xs.length:Int) / 256) (by omega),←cell_u8 xs.length ((xs.length:Int) % 256) (by omega)]
   rfl) hz2 (by simp [byteCells,maxLen])
  simpa [byteCells] using h
 have HWS3:Hid (WS w.heap.size W3 (.slice (some ⟨w2.heap.size,0,none⟩) 2 2) [(xs.length / 256).toUInt8,xs.length.toUInt8] (.slice (some ⟨w2.heap.size,0,none⟩) 2 2) W3):=Lib.hid ⟨hown3,Gr.refl _ _⟩
 have HB3:Hid (Below w.heap.size w W3):=Lib.hid (HB2.out.trans (hb3.mono hz2))
 have hzz:w.heap.size≤w2.heap.size∧w2.heap.size < W3.heap.size:=⟨hz2,by rw [hW3];simp⟩
 clear hown3 hb3 hn
 go_wp2
 rw [←hW3]
 clear hW3
 go_loopw [4,20] (fun sv iv W=>∃ (k:Nat) (cur:List UInt8),k≤xs.length∧iv=.int .i64 k∧Hid (WS w.heap.size W3 (.slice (some ⟨w2.heap.size,0,none⟩) 2 2) cur sv W)∧Hid (cur ++ exsB (xs.drop k)=encX xs)∧cur.length≤2+100000 * k) (fun _ iv _=>xs.length - (RowKit.intOf iv).toNat)
 case atStart=>exact ⟨0,_,by omega,rfl,HWS3,Lib.hid (by rw [List.drop_zero];rfl),by simp⟩
 case round =>
  obtain ⟨k,cur,hk,rfl,HWS,HEQ,hcl⟩:=hrel
  have hbb:Below w.heap.size W3 wr:=HWS.out.gr.below (by omega) fun g e=>by
   have e:w2.heap.size=g:=by simpa [Value.ownBlock] using e
   omega
  have HBW:Hid (Below w.heap.size w wr):=Lib.hid (HB3.out.trans hbb)
  have hzr:=HBW.out.size
  obtain ⟨As,cs,es⟩:=HWS.out.form
  subst es
  clear hbb
  by_cases hlt:k < xs.length
  ·obtain ⟨b,off,A',c',rfl,hb,hns,ht,x0,x1,x2,x3,x4⟩:=(HX.out.keep (S':=(· < w.heap.size)) fun g hg=>⟨hg,HBW.out.block g hg⟩).arg hlt
   obtain ⟨hn1,hn2,hn3,hn4⟩:=rightX_each HRT.out hlt
   have heq:=HEQ.out
   rw [exsB_step hlt] at heq
   obtain ⟨hpp,hfa⟩:=rightT_iff.1 (closedT_right hn3)
   have hwl:=wrT_len xs[k].ty hn4
   obtain ⟨W4,hW4⟩:∃ W4,W4=wr.alloc (.cells #[.string xs[k].name,.int .i64 xs[k].ty.kind,.int .i64 xs[k].ty.num,.string xs[k].ty.name,.slice A' xs[k].ty.args.length c'] 63):=⟨_,rfl⟩
   have hb4:Below wr.heap.size wr W4:=by rw [hW4];exact (Below.refl _ _).alloc (Nat.le_refl _) _
   have hbx:W4.heap[wr.heap.size]? = some (.cells #[.string xs[k].name,.int .i64 xs[k].ty.kind,.int .i64 xs[k].ty.num,.string xs[k].ty.name,.slice A' xs[k].ty.args.length c'] 63 (0,0)):=by rw [hW4];exact heap_alloc_new _ _
   have HT4:Hid (TyAt (· < w.heap.size) W4 (tyV xs[k].ty.kind xs[k].ty.num xs[k].ty.name A' xs[k].ty.args.length c') xs[k].ty):=Lib.hid (ht.keep fun g hg=>⟨hg,hb4.block g (by omega)⟩)
   have HWR:Hid (∀ cur bv W,w.heap.size≤W.heap.size→TyAt (· < w.heap.size) W (tyV xs[k].ty.kind xs[k].ty.num xs[k].ty.name A' xs[k].ty.args.length c') xs[k].ty→Par.Own W w.heap.size 5 bv (byteCells cur)→cur.length≤1000000000→_) :=
    Lib.hid fun cur bv W h1 h2 h3 h4=>written_any w.heap.size xs[k].ty cur bv _ W h1 h2 h3 hfa hn4 (by omega)
   have HNX:Hid ((((cur ++ [xs[k].name.size.toUInt8]) ++ xs[k].name.data.toList) ++ wrT xs[k].ty) ++ exsB (xs.drop (k+1))=encX xs):=Lib.hid (by
    rw [←heq];unfold exB;simp only [List.append_assoc])
   have h3l:xs[k].name.data.toList.length=xs[k].name.size:=by rw [Array.length_toList];rfl
   have hnl3:(((cur ++ [xs[k].name.size.toUInt8]) ++ xs[k].name.data.toList) ++ wrT xs[k].ty).length≤2+100000 * (k+1):=by
    simp only [List.length_append,List.length_singleton];omega
   have HZ4:Hid (wr.heap.size < W4.heap.size):=Lib.hid (lt_blk hbx)
   have HWS4:Hid (WS w.heap.size W3 (.slice (some ⟨w2.heap.size,0,none⟩) 2 2) cur (.slice As cur.length cs) W4):=Lib.hid ⟨HWS.out.own.below hb4,HWS.out.gr.trans (Gr.of_below hb4 _)⟩
   have HOL:Hid (∀ g,(Value.slice As cur.length cs).ownBlock=some g→w.heap.size≤g∧g < wr.heap.size):=Lib.hid HWS.out.own.lt
   have HBX:=Lib.hid hbx
   clear hn2 hn3 hn4 heq hpp hfa hwl hb4 hbx ht hns
   generalize xs[k]=X at *
   have hwn:IntKind.u8.wrap (X.name.size:Int)=(X.name.size:Int):=by unfold IntKind.wrap;simp [IntKind.signed,IntKind.bits];omega
   have hsg3:=seg_u8 W4 X.name.size (by omega)
   have hal4:∀ o,Par.Own (W4.alloc o) w.heap.size 5 (.slice As cur.length cs) (byteCells cur):=fun o=>HWS4.out.own.alloc o
   obtain ⟨z0,z1,z2,z3,z4⟩:=box5 HBX.out
   have hz4B:w.heap.size≤W4.heap.size:=by have:=HZ4.out;omega
   go_upto_region 7 with fail
   rw [←hW4]
   clear hW4 x0 x1 x2 x3 x4
   go_upto_region 8 with (at_builtin;refine wpList_app _ rfl _ _ _ rfl w.heap.size 5 _ byteEQ _ _ rfl (hal4 _) _ _ _ rfl hsg3 (one_bytes _) ?c1 ?c2 ?_)
   case c1=>rw [byteCells_length];simp [byteCells];omega
   case c2=>simp;omega
   intro v5 w5 hown5 hg5 hat5
   have hws5:=WS.app (xs:=[X.name.size.toUInt8]) HWS4.out hown5 hg5 (by rw [World.size_alloc];exact hat5)
   have hgr5:Gr W4 w5 (.slice As cur.length cs) v5:=Gr.app hg5 (by rw [World.size_alloc];exact hat5)
   have hbx5:=(hgr5.block HZ4.out (fun e=>by have:=(HOL.out _ e).2;omega)).trans HBX.out
   obtain ⟨cur5,hcur5⟩:∃ cur5,cur5=cur ++ [X.name.size.toUInt8]:=⟨_,rfl⟩
   have hcl5:cur5.length≤3+100000 * k:=by rw [hcur5,List.length_append];simp;omega
   rw [←hcur5] at hws5
   obtain ⟨A5,c5,rfl⟩:=hws5.form
   have HWS5:=Lib.hid hws5
   have HGR5:=Lib.hid hgr5
   have HCUR5:=Lib.hid hcur5
   have hown5:=hws5.own
   have hz5B:w.heap.size≤w5.heap.size:=by have:=hgr5.1.size;omega
   clear z0 z1 z2 z3 z4
   obtain ⟨z0,z1,z2,z3,z4⟩:=box5 hbx5
   clear hcur5 hws5 hgr5 hg5 hat5 hsg3 hal4 hwn hbx5
   obtain ⟨i0,hi,hz0,hz1,hz2'⟩:=byteInfo
   go_upto_region 9 with (at_builtin;refine wpList_app_str _ rfl _ _ 24 9 rfl w.heap.size 5 i0 Tryz.underlying24 Tryz.underlying9 hi hz0 hz1 hz2' _ _ rfl hown5 X.name rfl ?c3 ?c5 ?_)
   case c3=>rw [byteCells_length];omega
   case c5=>omega
   intro v6 w6 hown6 hg6 hat6
   rw [strCells_bytes] at hown6
   have hws6:=WS.app0 (xs:=X.name.data.toList) HWS5.out hown6 hg6 hat6
   have hgr6:Gr W4 w6 (.slice As cur.length cs) v6:=HGR5.out.trans ⟨hg6,hat6.imp_right fun h g e=>by rw [h] at e;injection e with e;omega⟩
   have hbx6:=(hgr6.block HZ4.out (fun e=>by have:=(HOL.out _ e).2;omega)).trans HBX.out
   have hb46:Below w.heap.size W4 w6:=hgr6.below hz4B fun g e=>(HOL.out g e).1
   obtain ⟨cur6,hcur6⟩:∃ cur6,cur6=cur5 ++ X.name.data.toList:=⟨_,rfl⟩
   have hcl6:cur6.length≤300+100000 * k:=by
    rw [hcur6,List.length_append];omega
   rw [←hcur6] at hws6
   obtain ⟨A6,c6,rfl⟩:=hws6.form
   have hca:=HWR.out cur6 (.slice A6 cur6.length c6) w6 (by have:=hb46.size;omega) (HT4.out.keep fun g hg=>⟨hg,hb46.block g hg⟩) hws6.own (by omega)
   have HGR6:=Lib.hid hws6.gr
   have hnx:=HNX.out
   rw [←HCUR5.out,←hcur6] at hnx hnl3
   generalize cur6 ++ wrT X.ty=cur7 at *
   have HNX7:=Lib.hid hnx
   unfold tyV at hca
   have HCA:=Lib.hid hca
   clear z0 z1 z2 z3 z4
   obtain ⟨z0,z1,z2,z3,z4⟩:=box5 hbx6
   clear hcur6 hws6 hgr6 hg6 hat6 hown6 hbx6 hb46 hca hnx hown5 HWR HNX
   go_wp2_with fail
   refine HCA.out.mono ?_
   rintro e w7 ⟨v7,rfl,hO7,hg7⟩
   have HWS7:Hid (WS w.heap.size W3 (.slice (some ⟨w2.heap.size,0,none⟩) 2 2) cur7 v7 w7):=Lib.hid ⟨hO7,HGR6.out.trans hg7⟩
   clear hO7 hg7 z0 z1 z2 z3 z4
   go_wp2
   go_roundw
   case rel=>exact ⟨k+1,cur7,by omega,by go_num,HWS7,HNX7,hnl3⟩
   case measure=>simp [RowKit.intOf];omega
  ·have hkl:k=xs.length:=by omega
   have heq:=HEQ.out
   rw [hkl,List.drop_length,exsB,List.append_nil] at heq
   have HE:Hid (P (.returned (.tuple #[.slice As cur.length cs,.int .i64 0])) wr):=Lib.hid (by
    rw [HPO.out]
    unfold EncPost
    refine ⟨.slice As cur.length cs,by rw [HRT.out];rfl,HBW.out,fun _=>?_,fun h=>?_⟩
    ·rw [←heq];exact HWS.out.own
    ·rw [HRT.out] at h;cases h)
   clear heq
   go_wp2
   exact HE.out
end Go.Proofs.YtaalbcfpacpgfaaGreat
