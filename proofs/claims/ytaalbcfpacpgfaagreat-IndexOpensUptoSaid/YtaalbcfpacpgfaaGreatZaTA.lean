/- Merged of T0 T1 T2 T3 T4 T5 T6 T7 T8 T9 T10. -/
import Derived.WalkKit
import Derived.WalkSmall
import Derived.Lib.Hide
import Derived.Lib.UnsafeStr
import Derived.Deep.Draws
import Derived.Maps.Own
import Derived.Test.YtaalbcfpacpgfaaGreatProg
import Derived.Maps.OwnOps
import Derived.Maps.OwnSet
import Derived.KernelRfl
import Derived.Maps.AppendAt
import Derived.RegionTactic
import Derived.OwnWalk
import Derived.WalkLawsBesides
import Derived.WalkSpells
import Derived.Outline
import Derived.BigQuiet
import Derived.IntWalk
import Derived.Lib.Strings
import Derived.Deep.QuietTactic
import Derived.Deep.DeepCutAuto
import Derived.Deep.RegionHeld
import Derived.StillTailTactics
import Derived.Lib.SliceRun
import Derived.RangeFuncNested
import Derived.RangeFuncBound
import Derived.RangeFuncCalls
import Derived.RangeFuncLeaves
import Derived.RangeFuncFrom
import Derived.Shelf.Abstract
import Derived.OwnWalkIn
import Derived.TacticsInMore
import Derived.LoopNIn
import Derived.LoopIn
import Derived.RangeFuncWrites
import Derived.Maps.OwnIn
import Derived.Test.YtaalbcfpacpgfaaGreatZaM1
set_option linter.unusedVariables false
set_option linter.unusedSimpArgs false
namespace Go.Typ
open Go.RowKit Go.Lib Go.Vfs Go.Par
inductive Ty where
 | mk (kind num:Int) (name:ByteArray) (args:List Ty)
def Ty.kind:Ty→Int | .mk k _ _ _=>k
def Ty.num:Ty→Int | .mk _ n _ _=>n
def Ty.name:Ty→ByteArray | .mk _ _ s _=>s
def Ty.args:Ty→List Ty | .mk _ _ _ ts=>ts
theorem Ty.eta (T:Ty):T=.mk T.kind T.num T.name T.args:=by cases T;rfl
theorem Ty.ext' {T U:Ty} (h1:T.kind=U.kind) (h2:T.num=U.num) (h3:T.name=U.name) (h4:T.args=U.args):T=U:=by
 cases T;cases U;simp only [Ty.kind,Ty.num,Ty.name,Ty.args] at *;subst h1 h2 h3 h4;rfl
mutual
def Ty.parts:Ty→Nat
 | .mk _ _ _ ts=>1+partsL ts
def partsL:List Ty→Nat
 | []=>0
 | a :: ts=>a.parts+partsL ts
end
theorem Ty.parts_pos (T:Ty):0 < T.parts:=by cases T;simp only [Ty.parts];omega
theorem parts_mem {a:Ty}:∀ {ts:List Ty},a∈ts→a.parts≤partsL ts
 | b :: bs,h=>by
  simp only [partsL]
  rcases List.mem_cons.1 h with rfl|h
  ·omega
  ·have:=parts_mem h;omega
theorem length_parts:∀ ts:List Ty,ts.length≤partsL ts
 | []=>by simp
 | a :: ts=>by have:=length_parts ts;have:=a.parts_pos;simp only [partsL,List.length_cons];omega
theorem Ty.parts_eq (T:Ty):T.parts=1+partsL T.args:=by cases T;rfl
theorem Ty.parts_arg {T:Ty} {i:Nat} (h:i < T.args.length):(T.args[i]).parts < T.parts:=by
 have:=parts_mem (List.getElem_mem h)
 rw [T.parts_eq];omega
theorem Ty.ind {p:Ty→Prop} (h:∀ T,(∀ i (hi:i < T.args.length),p T.args[i])→p T) (T:Ty):p T:=by
 have key:∀ n,∀ T:Ty,T.parts≤n→p T:=by
  intro n
  induction n with
  | zero=>intro T hT;have:=T.parts_pos;omega
  | succ n ih=>intro T hT;exact h T fun i hi=>ih _ (by have:=Ty.parts_arg hi;omega)
 exact key _ T (Nat.le_refl _)
def fld:Value→Nat→Value
 | .agg xs,j=>xs.getD j (.bool false)
 | _,_=>.bool false
def tyV (k num:Int) (name:ByteArray) (A:Option Addr) (n c:Nat):Value:=.agg #[.int .i64 k,.int .i64 num,.string name,.slice A n c]
inductive TyAt (S:Nat→Prop) (W:World):Value→Ty→Prop
 | mk (k num:Int) (name:ByteArray) (ts:List Ty) (A:Option Addr) (c:Nat) (vs:Nat→Value) (hc:ts.length≤c) (hm:c≤maxLen) (hn:name.size≤9223372036854775807)
   (hcell:0 < ts.length→∃ b off,A=some ⟨b,off,none⟩∧S b∧∀ i,i < ts.length→∀ j,j < 4→W.cell? ⟨b,off+i * 4+j,none⟩=some (fld (vs i) j))
   (hsub:∀ i (h:i < ts.length),TyAt S W (vs i) (ts[i])):TyAt S W (tyV k num name A ts.length c) (.mk k num name ts)
theorem tyV_inj {k num k' num':Int} {name name':ByteArray} {A A':Option Addr} {n c n' c':Nat} (h:tyV k num name A n c=tyV k' num' name' A' n' c'):k=k'∧num=num'∧name=name'∧A=A'∧n=n'∧c=c':=by
 injection h with h
 have h0:=congrArg (fun a=>a[0]?) h
 have h1:=congrArg (fun a=>a[1]?) h
 have h2:=congrArg (fun a=>a[2]?) h
 have h3:=congrArg (fun a=>a[3]?) h
 simp at h0 h1 h2 h3
 exact ⟨h0,h1,h2,h3⟩
section
variable {S S':Nat→Prop} {W W':World} {v:Value} {T T':Ty}
theorem TyAt.keep (h:TyAt S W v T) (hk:∀ b,S b→S' b∧W'.heap[b]? = W.heap[b]?):TyAt S' W' v T:=by
 induction h with
 | mk k num name ts A c vs hc hm hn hcell hsub ih =>
  refine .mk k num name ts A c vs hc hm hn (fun h0=>?_) ih
  obtain ⟨b,off,e,hb,hat⟩:=hcell h0
  exact ⟨b,off,e,(hk b hb).1,fun i hi j hj=>by rw [World.cell?_of_block (w:=W) (a:=⟨b,_,none⟩) ((hk b hb).2)];exact hat i hi j hj⟩
theorem TyAt.sub (h:TyAt S W v T) (hS:∀ b,S b→S' b):TyAt S' W v T:=h.keep fun b hb=>⟨hS b hb,rfl⟩
theorem TyAt.blw (h:TyAt (· < W.heap.size) W v T) (hb:Below W.heap.size W W'):TyAt (· < W'.heap.size) W' v T :=
 h.keep fun b hk=>⟨Nat.lt_of_lt_of_le hk hb.size,hb.block b hk⟩
theorem TyAt.form (h:TyAt S W v T):∃ A c,v=tyV T.kind T.num T.name A T.args.length c∧T.args.length≤c∧c≤maxLen∧T.name.size≤9223372036854775807:=by
 cases h with
 | mk k num name ts A c vs hc hm hn hcell hsub=>exact ⟨A,c,rfl,hc,hm,hn⟩
theorem TyAt.arg {k num:Int} {name:ByteArray} {A:Option Addr} {n c:Nat} (h:TyAt S W (tyV k num name A n c) T) {i:Nat} (hi:i < T.args.length) :
  ∃ b off A' c',A=some ⟨b,off,none⟩∧S b∧TyAt S W (tyV T.args[i].kind T.args[i].num T.args[i].name A' T.args[i].args.length c') T.args[i] ∧
   W.cell? ⟨b,off+i * 4,none⟩=some (.int .i64 T.args[i].kind)∧W.cell? ⟨b,off+i * 4+1,none⟩=some (.int .i64 T.args[i].num) ∧
   W.cell? ⟨b,off+i * 4+2,none⟩=some (.string T.args[i].name)∧W.cell? ⟨b,off+i * 4+3,none⟩=some (.slice A' T.args[i].args.length c'):=by
 generalize hv:tyV k num name A n c=v at h
 cases h with
 | mk k' num' name' ts A' c' vs hc hm hn hcell hsub =>
  obtain ⟨rfl,rfl,rfl,rfl,rfl,rfl⟩:=tyV_inj hv
  obtain ⟨b,off,e,hb,hat⟩:=hcell (by simp only [Ty.args] at hi;omega)
  have hs:=hsub i hi
  obtain ⟨A2,c2,e2,_⟩:=hs.form
  refine ⟨b,off,A2,c2,e,hb,by show TyAt S W (tyV ts[i].kind ts[i].num ts[i].name A2 ts[i].args.length c2) ts[i];rw [←e2];exact hs,?_⟩
  have h0:=hat i hi 0 (by omega)
  have h1:=hat i hi 1 (by omega)
  have h2:=hat i hi 2 (by omega)
  have h3:=hat i hi 3 (by omega)
  rw [e2] at h0 h1 h2 h3
  exact ⟨h0,h1,h2,h3⟩
end
end Go.Typ
namespace Go.Proofs.YtaalbcfpacpgfaaGreat
open Go.RowKit Go.Lib Go.Vfs Go.Par Go.Typ
theorem box4 {W:World} {b:Nat} {v0 v1 v2 v3:Value} {t:TypeId} (h:W.heap[b]? = some (.cells #[v0,v1,v2,v3] t (0,0))) :
  (W.cell? ⟨b,0,none⟩=some v0∧W.cell? ⟨b,1,none⟩=some v1∧W.cell? ⟨b,2,none⟩=some v2∧W.cell? ⟨b,3,none⟩=some v3):=by
 simp [World.cell?,h]
theorem box4_frozen {W:World} {b:Nat} {v0 v1 v2 v3:Value} {t:TypeId} (h:W.heap[b]? = some (.cells #[v0,v1,v2,v3] t (0,0))) :
  (W.frozen? ⟨b,0,none⟩=false∧W.frozen? ⟨b,1,none⟩=false∧W.frozen? ⟨b,2,none⟩=false∧W.frozen? ⟨b,3,none⟩=false):=by
 simp [World.frozen?,h]
end Go.Proofs.YtaalbcfpacpgfaaGreat
namespace Go.Typ
open Go.RowKit Go.Lib Go.Vfs Go.Par
structure ElemK (P:Program) (t e:TypeId) (k:Nat):Prop where
 und:P.underlying t=some (.slice e)
 info:∃ i z bytes,P.info? e=some i∧i.zero=some z∧i.size=k∧i.bytes=bytes∧bytes≤128∧z.cells.size=k
 pos:0 < k
theorem elemK_of {P:Program} {t e:TypeId} {k b:Nat} {z:Value} (ht:P.underlying t=some (.slice e)) (h:(P.info? e).map (fun i=>(i.zero,i.size,i.bytes))=some (some z,k,b)) (hb:b≤128) (h1:z.cells.size=k) (hk:0 < k):ElemK P t e k:=by
 obtain ⟨i,hi,h0,h2,h3⟩:=info_parts h
 exact ⟨ht,⟨i,z,b,hi,h0,h2,h3,hb,h1⟩,hk⟩
def flatC:Value→List Value
 | .agg xs=>xs.toList
 | v=>[v]
section
variable {P:Program} (w:World)
theorem run_appK (base:Nat) (t ty e:TypeId) (k:Nat) (E:ElemK P t e k) (v:Value) (n:Nat) (xs:List Value) (hown:w.ownsRow base e k v n xs)
  (ad:Addr) (m c:Nat) (news:List Value) (hl:news.length=m * k) (hcells:∀ j u,news[j]? = some u→w.cell? (ad.add j)=some u) (h1:∀ u∈news,u.oneCell'=true)
  (hbd:n+m≤1099511627776) (hbase:base≤w.heap.size) :
  ∃ v' w',(Builtin.append_ #[t,t] ty #[v,.slice (some ad) m c]).run P w=.ok v' w'∧w'.ownsRow base e k v' (n+m) (xs ++ news)∧w.grownBy w' v.ownBlock ∧
   (v'.ownBlock=v.ownBlock∨v'.ownBlock=some w.heap.size):=by
 obtain ⟨i,z,bytes,hi,hz,hsz,hby,hbb,hzs⟩:=E.info
 have hb2:(n+m) * bytes≤140737488355328:=Nat.le_trans (Nat.mul_le_mul hbd hbb) (by decide)
 obtain ⟨v',w',hr,h2,h3,_,h5⟩:=run_append_own_at (P:=P) w base t ty e i z k bytes E.und hi hz hsz hby hzs E.pos v n xs hown ad m c news hl hcells h1 (by simp only [maxLen];omega) hb2 hbase
 exact ⟨v',w',hr,h2,h3,h5⟩
theorem wpList_appK {ops:Array Oper} {rest:List Oper} {o:Oper} {a:Act} {Q:Exit→Act→World→Prop} (hgd:o.guard=none) (s x:Operand) (t:TypeId)
  (ho:o.op=.call { callee:=.builtin .append,args:=#[s,x],argTypes:=#[t,t] })
  (base:Nat) (e:TypeId) (k:Nat) (E:ElemK P t e k) (v:Value) (n:Nat) (xs:List Value) (hs:a.eval s=v) (hown:w.ownsRow base e k v n xs)
  (ad:Addr) (m c:Nat) (news:List Value) (hx:a.eval x=.slice (some ad) m c) (hl:news.length=m * k) (hcells:∀ j u,news[j]? = some u→w.cell? (ad.add j)=some u) (h1:∀ u∈news,u.oneCell'=true)
  (hbd:n+m≤1099511627776) (hbase:base≤w.heap.size)
  (h:∀ v' w',w'.ownsRow base e k v' (n+m) (xs ++ news)→w.grownBy w' v.ownBlock→(v'.ownBlock=v.ownBlock∨v'.ownBlock=some w.heap.size)→wpList P ops Q rest (a.put o.dst v') w'):wpList P ops Q (o :: rest) a w :=
 wpList_plain hgd fun _ hK=>by
  obtain ⟨v',w',hrun,h2,h3,h4⟩:=run_appK (P:=P) w base t o.type e k E v n xs hown ad m c news hl hcells h1 hbd hbase
  unfold Oper.wp execOp
  simp only [ho,resolve,invoke,builtin,Sem.run_bind,Sem.run_pure,Result.andThen_ok,List.map_toArray,List.map_cons,List.map_nil,hs,hx,hrun]
  exact hK _ _ (h v' w' h2 h3 h4)
end
theorem cells_new (w:World) (cs:List Value) (t:TypeId):∀ j u,cs[j]? = some u→(w.alloc (.cells cs.toArray t)).cell? ((⟨w.heap.size,0,none⟩:Addr).add j)=some u:=by
 intro j u h
 rw [add_addr,Nat.zero_add,World.cell?_alloc_new]
 simpa using h
theorem lt_blk {w:World} {b:Nat} {o:Obj} (h:w.heap[b]? = some o):b < w.heap.size:=(Array.getElem?_eq_some_iff.1 h).1
theorem cells_put {w:World} {b:Nat} {xs:Array Value} {t:TypeId} (h:w.heap[b]? = some (.cells xs t (0,0))) (i:Nat) (x:Value):(w.setCell ⟨b,i,none⟩ x).heap[b]? = some (.cells (xs.setIfInBounds i x) t (0,0)):=by
 have hlt:=lt_blk h
 have h':w.heap[b]=.cells xs t (0,0):=by simpa [Array.getElem?_eq_getElem hlt] using h
 show (w.heap.modify b _)[b]? = _
 rw [Array.getElem?_eq_getElem (by simpa using hlt),Array.getElem_modify_self,h']
 rfl
theorem put4 {w:World} {b:Nat} {u0 u1 u2 u3 v0 v1 v2 v3:Value} {t:TypeId} (h:w.heap[b]? = some (.cells #[u0,u1,u2,u3] t (0,0))) :
  ((((w.setCell ⟨b,0,none⟩ v0).setCell ⟨b,1,none⟩ v1).setCell ⟨b,2,none⟩ v2).setCell ⟨b,3,none⟩ v3).heap[b]? = some (.cells #[v0,v1,v2,v3] t (0,0)):=by
 have:=cells_put (cells_put (cells_put (cells_put h 0 v0) 1 v1) 2 v2) 3 v3
 simpa using this
theorem kept4 {F:Nat→Prop} {w0 w:World} {b:Nat} {v0 v1 v2 v3:Value} (h:Kept F w0 w) (hp:F b∨w0.heap.size≤b) :
  Kept F w0 ((((w.setCell ⟨b,0,none⟩ v0).setCell ⟨b,1,none⟩ v1).setCell ⟨b,2,none⟩ v2).setCell ⟨b,3,none⟩ v3) :=
 (((h.setCell (p:=⟨b,0,none⟩) hp v0).setCell (p:=⟨b,1,none⟩) hp v1).setCell (p:=⟨b,2,none⟩) hp v2).setCell (p:=⟨b,3,none⟩) hp v3
structure RowK {α:Type} (e k:Nat) (R:(Nat→Prop)→World→Value→α→Prop) (L B:Nat) (w:World) (xs:List α) (v:Value) (us:List Value):Prop where
 len:us.length=xs.length
 own:w.ownsRow B e k v xs.length (us.flatMap flatC)
 size:∀ u∈us,(flatC u).length=k
 each:∀ i (h:i < xs.length),R (fun g=>L≤g∧g < w.heap.size∧v.ownBlock≠some g) w (us.getD i (.bool false)) xs[i]
section
variable {α:Type} {e k:Nat} {R:(Nat→Prop)→World→Value→α→Prop} {L B:Nat} {w w' w2 w3:World} {xs:List α} {v v':Value} {us:List Value}
theorem RowK.nil (w:World):RowK e k R L B w [] (.slice none 0 0) []:=⟨rfl,World.ownsRow_nil w B e k,by simp,fun i h=>by simp at h⟩
theorem RowK.made (w:World) (hB:B≤w.heap.size):RowK e k R L B (w.alloc (.cells #[] e)) [] (.slice (some ⟨w.heap.size,0,none⟩) 0 0) [] :=
 ⟨rfl,World.ownsRow_made w #[] 0 hB (by simp) (by simp),by simp,fun i h=>by simp at h⟩
theorem RowK.keep (hK:∀ {S S':Nat→Prop} {w w':World} {v:Value} {x:α},R S w v x→(∀ b,S b→S' b∧w'.heap[b]? = w.heap[b]?)→R S' w' v x)
  (h:RowK e k R L B w xs v us) (hb:∀ g,g < w.heap.size→w'.heap[g]? = w.heap[g]?) (hz:w.heap.size≤w'.heap.size):RowK e k R L B w' xs v us :=
 ⟨h.len,ownsRow_block h.own fun g e=>hb g (h.own.lt g e).2,h.size,fun i hi=>hK (h.each i hi) fun b hk=>⟨⟨hk.1,by omega,hk.2.2⟩,hb b hk.2.1⟩⟩
theorem RowK.below (hK:∀ {S S':Nat→Prop} {w w':World} {v:Value} {x:α},R S w v x→(∀ b,S b→S' b∧w'.heap[b]? = w.heap[b]?)→R S' w' v x)
  (h:RowK e k R L B w xs v us) (hb:Below w.heap.size w w'):RowK e k R L B w' xs v us:=h.keep hK hb.block hb.size
theorem RowK.next (hK:∀ {S S':Nat→Prop} {w w':World} {v:Value} {x:α},R S w v x→(∀ b,S b→S' b∧w'.heap[b]? = w.heap[b]?)→R S' w' v x)
  (h:RowK e k R L B w xs v us) {u:Value} {x:α} {S:Nat→Prop} (hu:R S w u x) (hS:∀ g,S g→L≤g∧g < w.heap.size∧v.ownBlock≠some g) (hsz:(flatC u).length=k) (o:Obj)
  (hown:w3.ownsRow B e k v' (xs.length+1) (us.flatMap flatC ++ flatC u)) (hg:(w.alloc o).grownBy w3 v.ownBlock) (hat:v'.ownBlock=v.ownBlock∨v'.ownBlock=some (w.alloc o).heap.size) :
  RowK e k R L B w3 (xs ++ [x]) v' (us ++ [u]):=by
 have hal:(w.alloc o).heap.size=w.heap.size+1:=by simp
 have hz3:=hg.size
 have key:∀ g,g < w.heap.size→v.ownBlock≠some g→w3.heap[g]? = w.heap[g]?:=fun g h1 h2=>by
  rw [hg.block g (by omega) (fun e=>h2 e.symm),Below.heap_alloc _ _ _ h1]
 have ne':∀ g,g < w.heap.size→v.ownBlock≠some g→v'.ownBlock≠some g:=fun g h1 h2=>by
  rcases hat with e|e
  ·rw [e];exact h2
  ·rw [e];intro e2;injection e2 with e2;omega
 refine ⟨by simp [h.len],by rw [List.length_append,List.flatMap_append];simpa using hown,fun y hy=>?_,fun i hi=>?_⟩
 ·rcases List.mem_append.1 hy with hy | hy
  ·exact h.size y hy
  ·rw [List.mem_singleton.1 hy];exact hsz
 ·rw [List.length_append,List.length_singleton] at hi
  by_cases hik:i < xs.length
  ·have e1:(us ++ [u]).getD i (.bool false)=us.getD i (.bool false):=by simp [List.getD_eq_getElem?_getD,List.getElem?_append,h.len,hik]
   have e2:(xs ++ [x])[i]'(by simp;omega)=xs[i]:=by rw [List.getElem_append_left hik]
   rw [e1,e2]
   exact hK (h.each i hik) fun g hk=>⟨⟨hk.1,by omega,ne' g hk.2.1 hk.2.2⟩,key g hk.2.1 hk.2.2⟩
  ·have:i=xs.length:=by omega
   subst this
   have e1:(us ++ [u]).getD xs.length (.bool false)=u:=by rw [←h.len];simp [List.getD_eq_getElem?_getD]
   have e2:(xs ++ [x])[xs.length]'(by simp)=x:=by simp
   rw [e1,e2]
   refine hK hu fun g hk=>?_
   have:=hS g hk
   exact ⟨⟨this.1,by omega,ne' g this.2.1 this.2.2⟩,key g this.2.1 this.2.2⟩
theorem RowK.form (h:RowK e k R L B w xs v us):∃ A c,v=.slice A xs.length c∧xs.length≤c∧c≤maxLen:=by
 rcases h.own.2 with ⟨e,h0⟩|⟨g,cap,cur,e,_,_,hn,hm,_⟩
 ·exact ⟨none,0,by rw [e,h0],by omega,by simp [maxLen]⟩
 ·exact ⟨_,cap,e,hn,hm⟩
theorem RowK.lt (h:RowK e k R L B w xs v us) (g:Nat) (hg:v.ownBlock=some g):B≤g∧g < w.heap.size:=h.own.lt g hg
theorem flat_get {us:List Value} {k:Nat} (hs:∀ u∈us,(flatC u).length=k):∀ i j,i < us.length→j < k→(us.flatMap flatC)[i * k+j]? = (flatC (us.getD i (.bool false)))[j]?:=by
 induction us with
 | nil=>intro i j h;simp at h
 | cons u us ih =>
  intro i j hi hj
  have hu:=hs u (by simp)
  rw [List.flatMap_cons]
  cases i with
  | zero=>rw [Nat.zero_mul,Nat.zero_add,List.getElem?_append_left (by omega)];simp
  | succ i =>
   rw [List.getElem?_append_right (by rw [hu,Nat.add_mul];omega),hu,show (i+1) * k+j - k=i * k+j from by rw [Nat.add_mul];omega]
   rw [ih (fun y hy=>hs y (by simp [hy])) i j (by simpa using hi) hj]
   simp
theorem RowK.cells (h:RowK e k R L B w xs v us) (hp:0 < xs.length):∃ g c,v=.slice (some ⟨g,0,none⟩) xs.length c∧B≤g∧g < w.heap.size ∧
  ∀ i,i < xs.length→∀ j,j < k→w.cell? ⟨g,0+i * k+j,none⟩=(flatC (us.getD i (.bool false)))[j]?:=by
 rcases h.own.2 with ⟨e,h0⟩|⟨g,cap,cur,e,hb,hh,hn,hm,hc,ht⟩
 ·omega
 ·have hlt:=h.lt g (by rw [e];rfl)
  refine ⟨g,cap,e,hlt.1,hlt.2,fun i hi j hj=>?_⟩
  have hl:=flat_get h.size i j (by rw [h.len];exact hi) hj
  have hin:i * k+j < xs.length * k:=by
   have h2:(i+1) * k≤xs.length * k:=Nat.mul_le_mul_right k (by omega)
   rw [Nat.add_mul] at h2;omega
  rw [←hl,←ht,List.getElem?_take]
  rw [if_pos hin]
  simp [World.cell?,hh]
end
theorem RowK.ty {e L B:Nat} {w:World} {ts:List Ty} {v:Value} {us:List Value} (h:RowK e 4 TyAt L B w ts v us) (k num:Int) (name:ByteArray) (hn:name.size≤9223372036854775807) :
  ∃ A c,v=.slice A ts.length c∧TyAt (fun g=>(L≤g∨B≤g)∧g < w.heap.size) w (tyV k num name A ts.length c) (.mk k num name ts):=by
 obtain ⟨A,c,rfl,hc,hm⟩:=h.form
 refine ⟨A,c,rfl,.mk k num name ts A c (fun i=>us.getD i (.bool false)) hc hm hn (fun h0=>?_) (fun i hi=>(h.each i hi).sub fun g hg=>⟨.inl hg.1,hg.2.1⟩)⟩
 obtain ⟨g,c',e,hb,hlt,hat⟩:=h.cells h0
 injection e with e1 _ _
 refine ⟨g,0,e1,⟨.inr hb,hlt⟩,fun i hi j hj=>?_⟩
 rw [hat i hi j hj]
 obtain ⟨A',c',e,_⟩:=(h.each i hi).form
 rw [e]
 have:j=0∨j=1∨j=2∨j=3:=by omega
 rcases this with rfl|rfl|rfl|rfl <;> rfl
end Go.Typ
namespace Go.Proofs.YtaalbcfpacpgfaaGreat
open Go.RowKit Go.Lib Go.Vfs Go.Par Go.Typ
theorem tyE:ElemK Tryz.prog 59 61 4:=elemK_of (b:=56) (z:=.agg #[.int .i64 0,.int .i64 0,.string ⟨#[]⟩,.slice none 0 0]) Tryz.underlying59 (by kernel_rfl) (by decide) rfl (by decide)
theorem one4 (k num:Int) (s:ByteArray) (A:Option Addr) (n c:Nat):∀ u∈[Value.int .i64 k,.int .i64 num,.string s,.slice A n c],u.oneCell'=true:=by
 intro u hu
 simp at hu
 rcases hu with rfl|rfl|rfl|rfl <;> rfl
theorem below_grow {B:Nat} {w0 w w':World} {v:Value} (hb:Below B w0 w) (hB:B≤w.heap.size) (o:Obj) (hg:(w.alloc o).grownBy w' v.ownBlock) (hv:∀ k,v.ownBlock=some k→B≤k):Below B w0 w' :=
 (hb.alloc hB o).grown hg (by simp;omega) hv
structure Loop4 (w W1:World) (b:Nat) (T:Ty) (A:Option Addr) (c:Nat):Prop where
 box:W1.heap[b]? = some (.cells #[.int .i64 T.kind,.int .i64 T.num,.string T.name,.slice A T.args.length c] 61 (0,0))
 lt:b < W1.heap.size
 le:w.heap.size≤b
 below:Below w.heap.size w W1
 ty:TyAt (· < w.heap.size) w (tyV T.kind T.num T.name A T.args.length c) T
section
variable {w W1 W W2:World} {b c:Nat} {T:Ty} {A:Option Addr}
theorem Loop4.in_ (h:Loop4 w W1 b T A c) (hb:Below W1.heap.size W1 W):W.heap[b]? = some (.cells #[.int .i64 T.kind,.int .i64 T.num,.string T.name,.slice A T.args.length c] 61 (0,0)) :=
 (hb.block b h.lt).trans h.box
theorem Loop4.all (h:Loop4 w W1 b T A c) (hb:Below W1.heap.size W1 W):Below w.heap.size w W:=h.below.trans (hb.mono h.below.size)
theorem Loop4.ty' (h:Loop4 w W1 b T A c) (hb:Below W1.heap.size W1 W):TyAt (· < W.heap.size) W (tyV T.kind T.num T.name A T.args.length c) T:=h.ty.blw (h.all hb)
end
end Go.Proofs.YtaalbcfpacpgfaaGreat
namespace Go.Typ
open Classical in
noncomputable def same (T U:Ty):Bool:=decide (T=U)
theorem same_true {T U:Ty} (h:T=U):same T U=true:=by simp [same,h]
theorem same_false {T U:Ty} (h:¬ T=U):same T U=false:=by simp [same,h]
theorem same_iff {T U:Ty}:same T U=true↔T=U:=by simp [same]
theorem lt_cell {W:World} {b o:Nat} {v:Value} (h:W.cell? ⟨b,o,none⟩=some v):b < W.heap.size:=World.block_lt_of_cell? W ⟨b,o,none⟩ h
theorem beqS (x y:ByteArray):(x.toList == y.toList)=true↔x=y:=by
 rw [beq_iff_eq,ByteArray.toList_eq,ByteArray.toList_eq]
 exact ⟨fun h=>ByteArray.ext (Array.toList_inj.mp h),fun h=>by rw [h]⟩
theorem beqS_ne {x y:ByteArray} (h:¬ x=y):(x.toList == y.toList)=false:=by
 cases hb:x.toList == y.toList
 ·rfl
 ·exact absurd ((beqS x y).1 hb) h
end Go.Typ
namespace Go.Proofs.YtaalbcfpacpgfaaGreat
open Go.RowKit Go.Lib Go.Vfs Go.Par Go.Typ
set_option maxRecDepth 20000 in
set_option maxHeartbeats 1000000 in
theorem sameType_any (T:Ty):∀ (U:Ty) (u v:Value) (w:World),TyAt (· < w.heap.size) w u T→TyAt (· < w.heap.size) w v U →
  Calls Tryz.prog 103 #[u,v] w fun e w'=>e=.returned (.bool (same T U))∧Below w.heap.size w w':=by
 induction T using Ty.ind with
 | h T ih =>
  intro U u v w hT hU
  have IH:=Lib.hid ih
  clear ih
  obtain ⟨A,c,rfl,hc,hm,hn⟩:=hT.form
  obtain ⟨A',c',rfl,hc',hm',hn'⟩:=hU.form
  obtain ⟨W1,hW1⟩:∃ W1,W1=(w.alloc (.cells #[.int .i64 T.kind,.int .i64 T.num,.string T.name,.slice A T.args.length c] 61)).alloc (.cells #[.int .i64 U.kind,.int .i64 U.num,.string U.name,.slice A' U.args.length c'] 61):=⟨_,rfl⟩
  have hb1:Below w.heap.size w W1:=by rw [hW1];exact ((Below.refl _ _).alloc (Nat.le_refl _) _).alloc (by simp) _
  have hL:Loop4 w W1 w.heap.size T A c:=by
   refine ⟨?_,by rw [hW1];simp;omega,Nat.le_refl _,hb1,hT⟩
   rw [hW1,Below.heap_alloc _ _ _ (by simp)]
   exact heap_alloc_new _ _
  have hM:Loop4 w W1 (w.heap.size+1) U A' c':=by
   refine ⟨?_,by rw [hW1];simp,by omega,hb1,hU⟩
   rw [hW1]
   have:=heap_alloc_new (w.alloc (.cells #[.int .i64 T.kind,.int .i64 T.num,.string T.name,.slice A T.args.length c] 61)) (.cells #[.int .i64 U.kind,.int .i64 U.num,.string U.name,.slice A' U.args.length c'] 61)
   simpa using this
  have hla:T.args.length≤9223372036854775807:=by simp only [maxLen] at hm;omega
  have hla':U.args.length≤9223372036854775807:=by simp only [maxLen] at hm';omega
  have HL:=Lib.hid hL;have HM:=Lib.hid hM;have HB1:=Lib.hid hb1
  clear hT hU hL hM hb1 hc hm hn hc' hm' hn'
  unfold tyV
  by_cases e1:T.kind=U.kind
  ·by_cases e2:T.num=U.num
   ·by_cases e3:T.name=U.name
    ·by_cases e4:T.args.length=U.args.length
     ·have h1:(T.kind != U.kind)=false:=by simp [e1]
      have h2:(T.num != U.num)=false:=by simp [e2]
      have h3:(T.name.toList == U.name.toList)=true:=(beqS _ _).2 e3
      have h4:((T.args.length:Int) != (U.args.length:Int))=false:=by simp [e4]
      have E1:=Lib.hid e1;have E2:=Lib.hid e2;have E3:=Lib.hid e3;have E4:=Lib.hid e4
      clear e1 e2 e3 e4
      go_enter Tryz.func103,Tryz.ntmps103
      go_wp2
      rw [←hW1]
      go_loopw [5] (fun iv W=>∃ (k:Nat),k≤T.args.length∧iv=.int .i64 k∧Hid (T.args.take k=U.args.take k)∧Hid (Below W1.heap.size W1 W)) (fun iv _=>T.args.length - (intOf iv).toNat)
      case atStart=>exact ⟨0,by omega,rfl,Lib.hid (by simp),Lib.hid (Below.refl _ _)⟩
      case round =>
       obtain ⟨k,hk,rfl,HA,HB⟩:=hrel
       clear h1 h2 h3 h4
       obtain ⟨y0,y1,y2,y3⟩:=box4 (HL.out.in_ HB.out)
       by_cases hlt:k < T.args.length
       ·have hlt':k < U.args.length:=by have:=E4.out;omega
        obtain ⟨b,off,A2,c2,rfl,hb,ht,x0,x1,x2,x3⟩:=(HL.out.ty' HB.out).arg hlt
        obtain ⟨b',off',A2',c2',rfl,hb',ht',x0',x1',x2',x3'⟩:=(HM.out.ty' HB.out).arg hlt'
        obtain ⟨z0,z1,z2,z3⟩:=box4 (HM.out.in_ HB.out)
        have hca:∀ W2,Below wr.heap.size wr W2→_:=fun W2 hw2=>IH.out k hlt U.args[k] _ _ W2 (ht.blw hw2) (ht'.blw hw2)
        have HNE:Hid (¬ T.args[k]=U.args[k]→same T U=false):=Lib.hid fun h=>same_false fun e=>h (by subst e;rfl)
        have HTK:Hid (T.args[k]=U.args[k]→T.args.take (k+1)=U.args.take (k+1)):=Lib.hid fun h=>by rw [List.take_succ_eq_append_getElem hlt,List.take_succ_eq_append_getElem hlt',HA.out,h]
        clear ht ht' y0 y1 y2 z0 z1 z2
        generalize T.args[k]=X at *
        generalize U.args[k]=Y at *
        unfold tyV at hca
        have HCA:=Lib.hid hca
        have HBW:Hid (Below wr.heap.size wr wr.drew):=Lib.hid (Below.refl _ _).drew
        clear hca
        obtain ⟨q,hq⟩:∃ q,q=same X Y:=⟨_,rfl⟩
        rw [←hq] at HCA
        have HSK:Hid (∀ W2,Below wr.heap.size wr W2→W2.cell? ⟨w.heap.size,3,none⟩=some (.slice (some ⟨b,off,none⟩) T.args.length c)∧W2.cell? ⟨w.heap.size+1,3,none⟩=some (.slice (some ⟨b',off',none⟩) U.args.length c') ∧
          W2.cell? ⟨b,off+k * 4,none⟩=some (.int .i64 X.kind)∧W2.cell? ⟨b,off+k * 4+1,none⟩=some (.int .i64 X.num)∧W2.cell? ⟨b,off+k * 4+2,none⟩=some (.string X.name)∧W2.cell? ⟨b,off+k * 4+3,none⟩=some (.slice A2 X.args.length c2) ∧
          W2.cell? ⟨b',off'+k * 4,none⟩=some (.int .i64 Y.kind)∧W2.cell? ⟨b',off'+k * 4+1,none⟩=some (.int .i64 Y.num)∧W2.cell? ⟨b',off'+k * 4+2,none⟩=some (.string Y.name)∧W2.cell? ⟨b',off'+k * 4+3,none⟩=some (.slice A2' Y.args.length c2')) :=
         Lib.hid fun W2 h=>⟨(h.cell (p:=⟨_,_,none⟩) (lt_cell y3)).trans y3,(h.cell (p:=⟨_,_,none⟩) (lt_cell z3)).trans z3,(h.cell (p:=⟨_,_,none⟩) hb).trans x0,(h.cell (p:=⟨_,_,none⟩) hb).trans x1,(h.cell (p:=⟨_,_,none⟩) hb).trans x2,(h.cell (p:=⟨_,_,none⟩) hb).trans x3,
          (h.cell (p:=⟨_,_,none⟩) hb').trans x0',(h.cell (p:=⟨_,_,none⟩) hb').trans x1',(h.cell (p:=⟨_,_,none⟩) hb').trans x2',(h.cell (p:=⟨_,_,none⟩) hb').trans x3'⟩
        have HQ:=Lib.hid hq
        clear hq x0 x1 x2 x3 x0' x1' x2' x3'
        go_wp2_with fail
        go_region_held (fun W2=>W2.cell? ⟨w.heap.size,3,none⟩=some (.slice (some ⟨b,off,none⟩) T.args.length c)∧W2.cell? ⟨w.heap.size+1,3,none⟩=some (.slice (some ⟨b',off',none⟩) U.args.length c') ∧
          W2.cell? ⟨b,off+k * 4,none⟩=some (.int .i64 X.kind)∧W2.cell? ⟨b,off+k * 4+1,none⟩=some (.int .i64 X.num)∧W2.cell? ⟨b,off+k * 4+2,none⟩=some (.string X.name)∧W2.cell? ⟨b,off+k * 4+3,none⟩=some (.slice A2 X.args.length c2) ∧
          W2.cell? ⟨b',off'+k * 4,none⟩=some (.int .i64 Y.kind)∧W2.cell? ⟨b',off'+k * 4+1,none⟩=some (.int .i64 Y.num)∧W2.cell? ⟨b',off'+k * 4+2,none⟩=some (.string Y.name)∧W2.cell? ⟨b',off'+k * 4+3,none⟩=some (.slice A2' Y.args.length c2'))
          (first | exact HSK.out _ HBW.out | exact HSK.out _ (by assumption)) ((go_at_call 103;refine (HCA.out _ HBW.out).mono ?_;rintro e w2 ⟨rfl,HB2⟩;have HB3:=HBW.out.trans (HB2.mono HBW.out.size)))
        cases q
        ·have HR:Hid (same T U=false):=Lib.hid (HNE.out fun e=>by have h:=HQ.out;rw [same_true e] at h;cases h)
         go_wp2
         go_ret
         exact ⟨by rw [HR.out];rfl,HL.out.all (HB.out.trans (HB3.mono HB.out.size))⟩
        ·have HX:=same_iff.1 HQ.out.symm
         go_wp2
         go_roundw
         case rel=>exact ⟨k+1,by omega,by go_num,Lib.hid (HTK.out HX),Lib.hid (HB.out.trans (HB3.mono HB.out.size))⟩
         case measure=>simp [intOf];omega
       ·have hkl:k=T.args.length:=by omega
        have HR:Hid (same T U=true):=Lib.hid (same_true (Ty.ext' E1.out E2.out E3.out (by
         have h:=HA.out
         rw [hkl,List.take_length] at h
         rw [h,E4.out,List.take_length])))
        go_wp2
        go_ret
        exact ⟨by rw [HR.out];rfl,HL.out.all HB.out⟩
     ·have HR:Hid (same T U=false):=Lib.hid (same_false fun e=>e4 (by rw [e]))
      have h1:(T.kind != U.kind)=false:=by simp [e1]
      have h2:(T.num != U.num)=false:=by simp [e2]
      have h3:(T.name.toList == U.name.toList)=true:=(beqS _ _).2 e3
      have h4:((T.args.length:Int) != (U.args.length:Int))=true:=by simp;omega
      clear e1 e2 e3 e4
      go_enter Tryz.func103,Tryz.ntmps103
      go_wp2
      go_ret
      rw [HR.out,←hW1]
      exact ⟨rfl,HB1.out⟩
    ·have HR:Hid (same T U=false):=Lib.hid (same_false fun e=>e3 (by rw [e]))
     have h1:(T.kind != U.kind)=false:=by simp [e1]
     have h2:(T.num != U.num)=false:=by simp [e2]
     have h3:(T.name.toList == U.name.toList)=false:=beqS_ne e3
     clear e1 e2 e3
     go_enter Tryz.func103,Tryz.ntmps103
     go_wp2
     go_ret
     rw [HR.out,←hW1]
     exact ⟨rfl,HB1.out⟩
   ·have HR:Hid (same T U=false):=Lib.hid (same_false fun e=>e2 (by rw [e]))
    have h1:(T.kind != U.kind)=false:=by simp [e1]
    have h2:(T.num != U.num)=true:=by simp [e2]
    clear e1 e2
    go_enter Tryz.func103,Tryz.ntmps103
    go_wp2
    go_ret
    rw [HR.out,←hW1]
    exact ⟨rfl,HB1.out⟩
  ·have HR:Hid (same T U=false):=Lib.hid (same_false fun e=>e1 (by rw [e]))
   have h1:(T.kind != U.kind)=true:=by simp [e1]
   clear e1
   go_enter Tryz.func103,Tryz.ntmps103
   go_wp2
   go_ret
   rw [HR.out,←hW1]
   exact ⟨rfl,HB1.out⟩
end Go.Proofs.YtaalbcfpacpgfaaGreat
namespace Go.Typ
def smallN (n:Nat):Bool:=decide (97≤n∧n≤122)
def greatN (n:Nat):Bool:=decide (65≤n∧n≤90)
def digitN (n:Nat):Bool:=decide (48≤n∧n≤57)
def nmN (t:Bool) (n:Nat):Bool:=smallN n || greatN n || digitN n || decide (n=95) || (t && decide (n=39))
def keyWords:List (List UInt8):=[[95],[108,101,116],[114,101,99],[105,110],[102,117,110],[105,102],[116,104,101,110],[101,108,115,101],[109,97,116,99,104],[119,105,116,104],[116,121,112,101],[111,102],[116,114,117,101],[102,97,108,115,101]]
end Go.Typ
namespace Go.Proofs.YtaalbcfpacpgfaaGreat
open Go.RowKit Go.Lib Go.Vfs Go.Par Go.Typ
theorem lxsmall_any (x:Nat) (w:World):Calls Tryz.prog 172 #[.int .u8 x] w fun e w'=>e=.returned (.bool (smallN x))∧w'=w:=by
 by_cases h1:(97:Int)≤x
 ·by_cases h2:(x:Int)≤122
  ·have h:smallN x=true:=decide_eq_true (by omega)
   rw [h];clear h
   go_enter Tryz.func172,Tryz.ntmps172
   go_wp2
   go_ret
   exact ⟨rfl,rfl⟩
  ·have h:smallN x=false:=decide_eq_false (by omega)
   rw [h];clear h
   go_enter Tryz.func172,Tryz.ntmps172
   go_wp2
   go_ret
   exact ⟨rfl,rfl⟩
 ·have h:smallN x=false:=decide_eq_false (by omega)
  rw [h];clear h
  go_enter Tryz.func172,Tryz.ntmps172
  go_wp2
  go_ret
  exact ⟨rfl,rfl⟩
theorem lxgreat_any (x:Nat) (w:World):Calls Tryz.prog 175 #[.int .u8 x] w fun e w'=>e=.returned (.bool (greatN x))∧w'=w:=by
 by_cases h1:(65:Int)≤x
 ·by_cases h2:(x:Int)≤90
  ·have h:greatN x=true:=decide_eq_true (by omega)
   rw [h];clear h
   go_enter Tryz.func175,Tryz.ntmps175
   go_wp2
   go_ret
   exact ⟨rfl,rfl⟩
  ·have h:greatN x=false:=decide_eq_false (by omega)
   rw [h];clear h
   go_enter Tryz.func175,Tryz.ntmps175
   go_wp2
   go_ret
   exact ⟨rfl,rfl⟩
 ·have h:greatN x=false:=decide_eq_false (by omega)
  rw [h];clear h
  go_enter Tryz.func175,Tryz.ntmps175
  go_wp2
  go_ret
  exact ⟨rfl,rfl⟩
theorem lxdigit_any (x:Nat) (w:World):Calls Tryz.prog 176 #[.int .u8 x] w fun e w'=>e=.returned (.bool (digitN x))∧w'=w:=by
 by_cases h1:(48:Int)≤x
 ·by_cases h2:(x:Int)≤57
  ·have h:digitN x=true:=decide_eq_true (by omega)
   rw [h];clear h
   go_enter Tryz.func176,Tryz.ntmps176
   go_wp2
   go_ret
   exact ⟨rfl,rfl⟩
  ·have h:digitN x=false:=decide_eq_false (by omega)
   rw [h];clear h
   go_enter Tryz.func176,Tryz.ntmps176
   go_wp2
   go_ret
   exact ⟨rfl,rfl⟩
 ·have h:digitN x=false:=decide_eq_false (by omega)
  rw [h];clear h
  go_enter Tryz.func176,Tryz.ntmps176
  go_wp2
  go_ret
  exact ⟨rfl,rfl⟩
theorem data_toList (s:ByteArray):s.data.toList=s.toList:=(ByteArray.toList_eq s).symm
set_option maxHeartbeats 1000000 in
theorem wordKind_any (s:ByteArray) (w:World):Calls Tryz.prog 174 #[.string s] w fun e w'=>∃ z,e=.returned (.int .i64 z)∧(z=1↔s.data.toList ∉ keyWords)∧w'=w:=by
 rw [data_toList]
 go_enter Tryz.func174,Tryz.ntmps174
 go_wp2
 all_goals go_ret
 all_goals refine ⟨_,rfl,?_,rfl⟩
 all_goals simp_all [keyWords]
def byteS (s:ByteArray) (j:Nat):Nat:=(s.data.toList.getD j 0).toNat
theorem byteS_get (s:ByteArray) (k:Nat) (h:k < s.size):s[k].toNat=byteS s k:=by
 have:s[k]=s.data.toList.getD k 0:=by
  have h':k < s.data.size:=h
  rw [List.getD_eq_getElem?_getD,List.getElem?_eq_getElem (by simpa using h')]
  rfl
 rw [this];rfl
set_option maxRecDepth 20000 in
set_option maxHeartbeats 2000000 in
theorem run_any (s : ByteArray) (t : Bool) (a : Nat) (w : World) (ha : a ≤ s.size) (hs : s.size ≤ 9223372036854775807) :
    Calls Tryz.prog 173 #[.string s, .int .i64 a, .bool t] w fun e w' => ∃ n : Nat, e = .returned (.int .i64 n) ∧ a + n ≤ s.size ∧ Hid ((∀ j, a ≤ j → j < a + n → nmN t (byteS s j) = true) ∧ (a + n < s.size → nmN t (byteS s (a + n)) = false)) ∧ w' = w := by
  go_enter Tryz.func173, Tryz.ntmps173
  go_wp2
  go_loopw [7] (fun iv W => ∃ (k : Nat), a ≤ k ∧ k ≤ s.size ∧ iv = .int .i64 k ∧ Hid (∀ j, a ≤ j → j < k → nmN t (byteS s j) = true) ∧ W = w) (fun iv _ => s.size - (intOf iv).toNat)
  case atStart => exact ⟨a, by omega, by omega, rfl, Lib.hid (fun j h1 h2 => by omega), rfl⟩
  case round =>
    obtain ⟨k, hk0, hk, rfl, HJ, rfl⟩ := hrel
    by_cases hlt : k < s.size
    · have HX := Lib.hid (byteS_get s k hlt)
      obtain ⟨x, hx⟩ : ∃ x, x = s[k].toNat := ⟨_, rfl⟩
      have HX2 : Hid (byteS s k = x) := Lib.hid (by rw [hx, HX.out])
      clear HX
      have HY : Hid (nmN t x = true → ∀ j, a ≤ j → j < k + 1 → nmN t (byteS s j) = true) := Lib.hid fun h j h1 h2 => by
        by_cases hj : j < k
        · exact HJ.out j h1 hj
        · have : j = k := by omega
          rw [this, HX2.out]; exact h
      have HS := Lib.hid (lxsmall_any x wr); have HG := Lib.hid (lxgreat_any x wr); have HD := Lib.hid (lxdigit_any x wr)
      have HN : Hid (nmN t x = (smallN x || greatN x || digitN x || decide (x = 95) || (t && decide (x = 39)))) := Lib.hid rfl
      have g4 : ((x : Int) != 95) = !decide (x = 95) := by
        by_cases h : x = 95
        · subst h; rfl
        · simp [h]; omega
      have g5 : ((x : Int) == 39) = decide (x = 39) := by
        by_cases h : x = 39
        · subst h; rfl
        · simp [h]; omega
      generalize smallN x = b1 at *
      generalize greatN x = b2 at *
      generalize digitN x = b3 at *
      generalize decide (x = 95) = b4 at *
      generalize decide (x = 39) = b5 at *
      have HQ0 : ∃ q, q = nmN t x := ⟨_, rfl⟩
      obtain ⟨q, hq⟩ := HQ0
      have HQ := Lib.hid hq.symm
      rw [← hq] at HN HY
      clear hq
      replace hx := hx.symm
      have LEAVE : Hid (q = false → ∃ n : Nat, (k : Int) - a = n ∧ a + n ≤ s.size ∧ Hid ((∀ j, a ≤ j → j < a + n → nmN t (byteS s j) = true) ∧ (a + n < s.size → nmN t (byteS s (a + n)) = false))) := Lib.hid fun h => by
        refine ⟨k - a, by omega, by omega, Lib.hid ⟨fun j h1 h2 => HJ.out j h1 (by omega), fun _ => ?_⟩⟩
        rw [show a + (k - a) = k by omega, HX2.out, HQ.out]; exact h
      have hh : b1 = true ∨ (b1 = false ∧ b2 = true) ∨ (b1 = false ∧ b2 = false ∧ b3 = true) ∨ (b1 = false ∧ b2 = false ∧ b3 = false ∧ b4 = true) ∨ (b1 = false ∧ b2 = false ∧ b3 = false ∧ b4 = false ∧ t = true ∧ b5 = true) ∨ (b1 = false ∧ b2 = false ∧ b3 = false ∧ b4 = false ∧ t = false) ∨ (b1 = false ∧ b2 = false ∧ b3 = false ∧ b4 = false ∧ t = true ∧ b5 = false) := by
        cases b1 <;> cases b2 <;> cases b3 <;> cases b4 <;> cases t <;> cases b5 <;> simp
      rcases hh with rfl | ⟨rfl, rfl⟩ | ⟨rfl, rfl, rfl⟩ | ⟨rfl, rfl, rfl, rfl⟩ | ⟨rfl, rfl, rfl, rfl, rfl, rfl⟩ | ⟨rfl, rfl, rfl, rfl, rfl⟩ | ⟨rfl, rfl, rfl, rfl, rfl, rfl⟩
      all_goals go_wp2_with (first | (go_at_call 172; refine HS.out.mono ?_; rintro e w2 ⟨rfl, rfl⟩) | (go_at_call 175; refine HG.out.mono ?_; rintro e w2 ⟨rfl, rfl⟩) | (go_at_call 176; refine HD.out.mono ?_; rintro e w2 ⟨rfl, rfl⟩))
      all_goals first
        | (go_ret
           obtain ⟨n, h1, h2, h3⟩ := LEAVE.out (by rw [HN.out]; rfl)
           exact ⟨n, by rw [← h1]; rfl, h2, h3, rfl⟩)
        | (go_roundw
           case rel => exact ⟨k + 1, by omega, by omega, by go_num, Lib.hid (HY.out (by rw [HN.out]; simp)), by first | rfl | trivial⟩
           case measure => simp [intOf]; omega)
    · have hkl : k = s.size := by omega
      have LEAVE : Hid (∃ n : Nat, (k : Int) - a = n ∧ a + n ≤ s.size ∧ Hid ((∀ j, a ≤ j → j < a + n → nmN t (byteS s j) = true) ∧ (a + n < s.size → nmN t (byteS s (a + n)) = false))) := Lib.hid
        ⟨k - a, by omega, by omega, Lib.hid ⟨fun j h1 h2 => HJ.out j h1 (by omega), fun h => by omega⟩⟩
      clear hkl
      go_wp2
      go_ret
      obtain ⟨n, h1, h2, h3⟩ := LEAVE.out
      exact ⟨n, by rw [← h1]; rfl, h2, h3, rfl⟩
end Go.Proofs.YtaalbcfpacpgfaaGreat
namespace Go.Typ
def nameOk:List UInt8→Bool
 | []=>false
 | c :: cs=>(smallN c.toNat || decide (c.toNat=95)) && (c :: cs).all (fun b=>nmN true b.toNat) && !((c :: cs)∈keyWords:Bool)
end Go.Typ
namespace Go.Proofs.YtaalbcfpacpgfaaGreat
open Go.RowKit Go.Lib Go.Vfs Go.Par Go.Typ
set_option maxRecDepth 20000 in
set_option maxHeartbeats 1000000 in
theorem sign_any (s:ByteArray) (w:World) (h0:0 < s.size) (hs:s.size≤9223372036854775807) :
  Calls Tryz.prog 177 #[.string s,.int .i64 0] w fun e w'=>∃ z,e=.returned (.int .i64 z)∧w'=w:=by
 by_cases h2:1 < s.size
 ·go_enter Tryz.func177,Tryz.ntmps177
  go_wp2
  all_goals (go_ret;exact ⟨_,rfl,rfl⟩)
 ·go_enter Tryz.func177,Tryz.ntmps177
  go_wp2
  all_goals (go_ret;exact ⟨_,rfl,rfl⟩)
theorem nameOk_get {s:ByteArray} (h0:0 < s.size):nameOk s.data.toList=((smallN (byteS s 0) || decide (byteS s 0=95)) && s.data.toList.all (fun b=>nmN true b.toNat) && !(s.data.toList∈keyWords:Bool)):=by
 unfold byteS
 have hl:0 < s.data.toList.length:=by rw [Array.length_toList];exact h0
 cases hs:s.data.toList with
 | nil=>rw [hs] at hl;simp at hl
 | cons c cs=>rfl
theorem all_byteS {s:ByteArray} {p:Nat→Bool}:s.data.toList.all (fun b=>p b.toNat)=true↔∀ j,j < s.size→p (byteS s j)=true:=by
 have hl:s.data.toList.length=s.size:=by rw [Array.length_toList];rfl
 rw [List.all_eq_true]
 constructor
 ·intro h j hj
  have:s.data.toList.getD j 0∈s.data.toList:=by
   rw [List.getD_eq_getElem?_getD,List.getElem?_eq_getElem (by omega)]
   exact List.getElem_mem _
  exact h _ this
 ·intro h x hx
  obtain ⟨j,hj,rfl⟩:=List.getElem_of_mem hx
  have:=h j (by omega)
  unfold byteS at this
  rwa [List.getD_eq_getElem?_getD,List.getElem?_eq_getElem hj] at this
theorem extract_all (s:ByteArray):s.extract 0 s.size=s:=by
 apply ByteArray.ext
 rw [ByteArray.data_extract]
 show s.data.extract 0 s.data.size=s.data
 exact Array.extract_size
theorem name_word {s:ByteArray} (h0:0 < s.size) (hf:smallN (byteS s 0)=true∨byteS s 0=95) {n:Nat} (hn:n≤s.size) (hj:∀ j,j < n→nmN true (byteS s j)=true) (he:n < s.size→nmN true (byteS s n)=false)
  {z:Int} (hz:z=1↔(s.extract 0 n).data.toList ∉ keyWords):(z=1→(n:Int)=s.size→nameOk s.data.toList=true)∧(nameOk s.data.toList=true→z=1∧(n:Int)=s.size):=by
 rw [nameOk_get h0]
 constructor
 ·intro h1 h2
  have h2':n=s.size:=by omega
  subst h2'
  rw [extract_all] at hz
  have hk:=hz.1 h1
  have ha:=(all_byteS (p:=nmN true)).2 hj
  rw [ha]
  rcases hf with h|h <;> simp [h,hk]
 ·intro h
  simp only [Bool.and_eq_true,Bool.not_eq_true',decide_eq_false_iff_not] at h
  have ha:=(all_byteS (p:=nmN true)).1 h.1.2
  have hns:n=s.size:=by
   by_cases hlt:n < s.size
   ·rw [ha n hlt] at he
    cases he hlt
   ·omega
  subst hns
  rw [extract_all] at hz
  exact ⟨hz.2 h.2,rfl⟩
theorem name_not {s:ByteArray} (h0:0 < s.size) (hf:¬ (smallN (byteS s 0)=true∨byteS s 0=95)):nameOk s.data.toList=false:=by
 rw [nameOk_get h0]
 simp only [not_or] at hf
 simp [hf.1,hf.2]
set_option maxRecDepth 20000 in
set_option maxHeartbeats 2000000 in
theorem token_any (s:ByteArray) (w:World) (h0:0 < s.size) (hs:s.size≤9223372036854775807) :
  Calls Tryz.prog 156 #[.string s,.int .i64 0] w fun e w'=>∃ z n:Int,e=.returned (.tuple #[.int .i64 z,.int .i64 n])∧(z=1→n=s.size→nameOk s.data.toList=true)∧(nameOk s.data.toList=true→z=1∧n=s.size)∧w'=w:=by
 obtain ⟨x,hx⟩:∃ x,s[0].toNat=x:=⟨_,rfl⟩
 have HX:Hid (byteS s 0=x):=Lib.hid (by rw [←hx];exact (byteS_get s 0 h0).symm)
 have HS:=Lib.hid (lxsmall_any x w);have HG:=Lib.hid (lxgreat_any x w);have HD:=Lib.hid (lxdigit_any x w)
 obtain ⟨b1,hb1⟩:∃ b,b=smallN x:=⟨_,rfl⟩
 obtain ⟨b2,hb2⟩:∃ b,b=greatN x:=⟨_,rfl⟩
 obtain ⟨b3,hb3⟩:∃ b,b=digitN x:=⟨_,rfl⟩
 rw [←hb1] at HS;rw [←hb2] at HG;rw [←hb3] at HD
 have HB1:=Lib.hid hb1;have HB2:=Lib.hid hb2;have HB3:=Lib.hid hb3
 clear hb1 hb2 hb3
 by_cases hn:b1=true∨x=95
 ·have HR:=Lib.hid (run_any s true 0 w (by omega) hs)
  have g4:b1=false→((x:Int) == 95)=true:=fun h=>by
   rcases hn with h'|h'
   ·rw [h] at h';cases h'
   ·subst h';rfl
  have HG4:=Lib.hid g4
  clear g4
  have HF:Hid (smallN (byteS s 0)=true∨byteS s 0=95):=Lib.hid (by rw [HX.out,←HB1.out];exact hn)
  clear hn
  go_enter Tryz.func156,Tryz.ntmps156
  cases b1
  ·have g4:=HG4.out rfl
   go_wp2_with (first | (go_at_call 172;refine HS.out.mono ?_;rintro e w2 ⟨rfl,rfl⟩) | (go_at_call 173;refine HR.out.mono ?_;rintro e w2 ⟨n,rfl,hn,HN,rfl⟩) | (go_at_call 174;refine (wordKind_any _ _).mono ?_;rintro e w2 ⟨z,rfl,hz,rfl⟩;have HZ:=Lib.hid hz;clear hz))
   go_ret2
   have h:=name_word h0 HF.out (n:=n) (by omega) (fun j hj=>HN.out.1 j (by omega) (by omega)) (fun hlt=>by have:=HN.out.2 (by omega);rwa [Nat.zero_add] at this) HZ.out
   exact ⟨z,n,rfl,h.1,h.2,rfl⟩
  ·go_wp2_with (first | (go_at_call 172;refine HS.out.mono ?_;rintro e w2 ⟨rfl,rfl⟩) | (go_at_call 173;refine HR.out.mono ?_;rintro e w2 ⟨n,rfl,hn,HN,rfl⟩) | (go_at_call 174;refine (wordKind_any _ _).mono ?_;rintro e w2 ⟨z,rfl,hz,rfl⟩;have HZ:=Lib.hid hz;clear hz))
   go_ret2
   have h:=name_word h0 HF.out (n:=n) (by omega) (fun j hj=>HN.out.1 j (by omega) (by omega)) (fun hlt=>by have:=HN.out.2 (by omega);rwa [Nat.zero_add] at this) HZ.out
   exact ⟨z,n,rfl,h.1,h.2,rfl⟩
 ·have HF:Hid (nameOk s.data.toList=false):=Lib.hid (name_not h0 (by rw [HX.out,←HB1.out];exact hn))
  have hb1:b1=false:=by cases b1;rfl;exact absurd (.inl rfl) hn
  subst hb1
  have hx95:¬ x=95:=fun h=>hn (.inr h)
  have g4:((x:Int) == 95)=false:=by simp;omega
  clear hn hx95
  rw [HF.out]
  have HR:=fun t a h=>Lib.hid (run_any s t a w h hs)
  have HSG:=Lib.hid (sign_any s w h0 hs)
  go_enter Tryz.func156,Tryz.ntmps156
  cases b2
  ·cases b3
   ·have g39:((x:Int) == 39)=decide (x=39):=by
     by_cases h:x=39
     ·subst h;rfl
     ·simp [h];omega
    obtain ⟨b4,hb4⟩:∃ b,b=decide (x=39):=⟨_,rfl⟩
    rw [←hb4] at g39
    clear hb4
    cases b4
    ·go_wp2_with (first | (go_at_call 172;refine HS.out.mono ?_;rintro e w2 ⟨rfl,rfl⟩) | (go_at_call 175;refine HG.out.mono ?_;rintro e w2 ⟨rfl,rfl⟩) | (go_at_call 176;refine HD.out.mono ?_;rintro e w2 ⟨rfl,rfl⟩) | (go_at_call 177;refine HSG.out.mono ?_;rintro e w2 ⟨z,rfl,rfl⟩))
     all_goals go_ret2
     all_goals exact ⟨_,_,rfl,by simp,by simp,rfl⟩
    ·by_cases h1:1 < s.size
     ·obtain ⟨y,hy⟩:∃ y,s[1].toNat=y:=⟨_,rfl⟩
      have HY:=Lib.hid (lxsmall_any y w)
      obtain ⟨b5,hb5⟩:∃ b,b=smallN y:=⟨_,rfl⟩
      rw [←hb5] at HY
      clear hb5
      have HR0:=HR false 1 (by omega)
      cases b5
      ·go_wp2_with (first | (go_at_call 172;refine HS.out.mono ?_;rintro e w2 ⟨rfl,rfl⟩;clear HS) | (go_at_call 175;refine HG.out.mono ?_;rintro e w2 ⟨rfl,rfl⟩) | (go_at_call 176;refine HD.out.mono ?_;rintro e w2 ⟨rfl,rfl⟩) | (go_at_call 172;refine HY.out.mono ?_;rintro e w2 ⟨rfl,rfl⟩))
       all_goals go_ret2
       all_goals exact ⟨_,_,rfl,by simp,by simp,rfl⟩
      ·go_wp2_with (first | (go_at_call 172;refine HS.out.mono ?_;rintro e w2 ⟨rfl,rfl⟩;clear HS) | (go_at_call 175;refine HG.out.mono ?_;rintro e w2 ⟨rfl,rfl⟩) | (go_at_call 176;refine HD.out.mono ?_;rintro e w2 ⟨rfl,rfl⟩) | (go_at_call 172;refine HY.out.mono ?_;rintro e w2 ⟨rfl,rfl⟩) | (go_at_call 173;refine HR0.out.mono ?_;rintro e w2 ⟨n,rfl,hn,HN,rfl⟩))
       all_goals go_ret2
       all_goals exact ⟨_,_,rfl,by simp,by simp,rfl⟩
     ·go_wp2_with (first | (go_at_call 172;refine HS.out.mono ?_;rintro e w2 ⟨rfl,rfl⟩) | (go_at_call 175;refine HG.out.mono ?_;rintro e w2 ⟨rfl,rfl⟩) | (go_at_call 176;refine HD.out.mono ?_;rintro e w2 ⟨rfl,rfl⟩))
      all_goals go_ret2
      all_goals first | exact ⟨_,_,rfl,by simp,by simp,rfl⟩ | exact ⟨0,0,rfl,by simp,rfl⟩ | exact ⟨0,0,rfl,rfl⟩ | exact ⟨0,0,rfl,by simp⟩ | exact ⟨0,0,rfl⟩
   ·go_wp2_with (first | (go_at_call 172;refine HS.out.mono ?_;rintro e w2 ⟨rfl,rfl⟩) | (go_at_call 175;refine HG.out.mono ?_;rintro e w2 ⟨rfl,rfl⟩) | (go_at_call 176;refine HD.out.mono ?_;rintro e w2 ⟨rfl,rfl⟩))
    go_loopw [8] (fun iv W=>∃ (k:Nat),1≤k∧k≤s.size∧iv=.int .i64 k∧W=w2) (fun iv _=>s.size - (intOf iv).toNat)
    case atStart=>exact ⟨1,by omega,by omega,rfl,rfl⟩
    case round =>
     obtain ⟨k,hk0,hk,rfl,rfl⟩:=hrel
     by_cases hlt:k < s.size
     ·obtain ⟨y,hy⟩:∃ y,s[k].toNat=y:=⟨_,rfl⟩
      have HY:=Lib.hid (lxdigit_any y wr)
      obtain ⟨b5,hb5⟩:∃ b,b=digitN y:=⟨_,rfl⟩
      rw [←hb5] at HY
      clear hb5
      cases b5
      ·go_wp2_with (first | (go_at_call 176;refine HY.out.mono ?_;rintro e w2 ⟨rfl,rfl⟩))
       go_ret2
       exact ⟨_,_,rfl,by simp,by simp,rfl⟩
      ·go_wp2_with (first | (go_at_call 176;refine HY.out.mono ?_;rintro e w2 ⟨rfl,rfl⟩))
       go_roundw
       case rel=>exact ⟨k+1,by omega,by omega,by go_num,by first | rfl | trivial⟩
       case measure=>simp [intOf];omega
     ·have hkl:k=s.size:=by omega
      go_wp2
      go_ret2
      exact ⟨_,_,rfl,by simp,by simp,rfl⟩
  ·have HR0:=HR true 0 (by omega)
   go_wp2_with (first | (go_at_call 172;refine HS.out.mono ?_;rintro e w2 ⟨rfl,rfl⟩) | (go_at_call 175;refine HG.out.mono ?_;rintro e w2 ⟨rfl,rfl⟩) | (go_at_call 173;refine HR0.out.mono ?_;rintro e w2 ⟨n,rfl,hn,HN,rfl⟩))
   go_ret2
   exact ⟨2,n,rfl,by simp,by simp,rfl⟩
set_option maxHeartbeats 1000000 in
theorem kind_any (s:ByteArray) (w:World) (hs:s.size≤9223372036854775807) :
  Calls Tryz.prog 145 #[.string s] w fun e w'=>∃ z,e=.returned (.int .i64 z)∧(z=1↔nameOk s.data.toList=true)∧w'=w:=by
 by_cases h0:0 < s.size
 ·have HT:=Lib.hid (token_any s w h0 hs)
  have hne:(s.toList == [])=false:=by
   rw [←data_toList]
   have hl:0 < s.data.toList.length:=by rw [Array.length_toList];exact h0
   cases h:s.data.toList with
   | nil=>rw [h] at hl;simp at hl
   | cons a l=>rfl
  go_enter Tryz.func145,Tryz.ntmps145
  go_wp2_with (go_at_call 156;refine HT.out.mono ?_;rintro e w2 ⟨z,n,rfl,hz1,hz2,rfl⟩;have HZ1:=Lib.hid hz1;have HZ2:=Lib.hid hz2;clear hz1 hz2)
  ·go_ret
   rename_i hb
   refine ⟨0,rfl,⟨fun h=>(by cases h),fun h=>?_⟩,rfl⟩
   have:=(HZ2.out h).2
   simp [this] at hb
  ·go_ret
   rename_i hb
   refine ⟨z,rfl,⟨fun h=>HZ1.out h (by simpa using hb),fun h=>(HZ2.out h).1⟩,rfl⟩
 ·have hs0:s=⟨#[]⟩:=by
   apply ByteArray.ext
   apply Array.eq_empty_of_size_eq_zero
   show s.size=0
   omega
  subst hs0
  clear h0
  go_enter Tryz.func145,Tryz.ntmps145
  go_wp2
  go_ret
  exact ⟨0,rfl,by simp [nameOk],rfl⟩
end Go.Proofs.YtaalbcfpacpgfaaGreat
namespace Go.Typ
def fitsT (T : Ty) : Bool :=
  (decide (T.kind = 1) && (decide (0 ≤ T.num) && decide (T.num < 1073741824) && decide (T.name.toList = []) && decide (T.args.length = 0))) ||
  (decide (T.kind = 2) && (decide (T.num = 0) && nameOk T.name.data.toList)) ||
  (decide (T.kind = 3) && (decide (T.num = 0) && decide (T.name.toList = []) && decide (2 ≤ T.args.length))) ||
  (decide (T.kind = 4) && (decide (T.num = 0) && decide (T.name.toList = []) && decide (T.args.length = 2)))
end Go.Typ
namespace Go.Proofs.YtaalbcfpacpgfaaGreat
open Go.RowKit Go.Lib Go.Vfs Go.Par Go.Typ
theorem beq_zero (n:Nat):((n:Int) == 0)=decide (n=0):=by
 by_cases h:n=0
 ·subst h;rfl
 ·have:¬ (n:Int)=0:=by omega
  simp [h]
theorem beq_two (n:Nat):((n:Int) == 2)=decide (n=2):=by
 by_cases h:n=2
 ·subst h;rfl
 ·have:¬ (n:Int)=2:=by omega
  simp [h,this]
set_option maxRecDepth 20000 in
set_option maxHeartbeats 2000000 in
theorem fits_any (T:Ty) (v:Value) (w:World) (hT:TyAt (· < w.heap.size) w v T) :
  Calls Tryz.prog 179 #[v] w fun e w'=>e=.returned (.bool (fitsT T))∧Below w.heap.size w w':=by
 obtain ⟨A,c,rfl,hc,hm,hn⟩:=hT.form
 have hla:T.args.length≤9223372036854775807:=by simp only [maxLen] at hm;omega
 have HK:Hid (∀ W,Calls Tryz.prog 145 #[.string T.name] W fun e w'=>∃ z,e=.returned (.int .i64 z)∧(z=1↔nameOk T.name.data.toList=true)∧w'=W):=Lib.hid fun W=>kind_any T.name W hn
 obtain ⟨r,hr⟩:∃ r,r=fitsT T:=⟨_,rfl⟩
 rw [←hr]
 unfold fitsT at hr
 have HB:Hid (∀ o:Obj,Below w.heap.size w (w.alloc o)):=Lib.hid fun o=>(Below.refl _ _).alloc (Nat.le_refl _) _
 have HR:=Lib.hid hr
 clear hr hT hc hm hn
 unfold tyV
 by_cases k1:T.kind=1
 ·rw [k1] at HR ⊢
  go_enter Tryz.func179,Tryz.ntmps179
  go_wp2
  all_goals (go_ret;refine ⟨congrArg (fun b=>Ending.returned (.bool b)) ?_,HB.out _⟩;rw [HR.out])
  all_goals first | (simp [*,beq_zero,beq_two];done) | (simp [*,beq_zero,beq_two];omega)
 by_cases k2:T.kind=2
 ·rw [k2] at HR ⊢
  go_enter Tryz.func179,Tryz.ntmps179
  go_wp2_with (go_at_call 145;refine (HK.out _).mono ?_;rintro e w2 ⟨z,rfl,hz,rfl⟩;have hz1:(z == 1)=nameOk T.name.data.toList:=by (rw [Bool.eq_iff_iff,←hz];simp))
  all_goals (go_ret;refine ⟨congrArg (fun b=>Ending.returned (.bool b)) ?_,HB.out _⟩;rw [HR.out])
  all_goals first | (simp [*,beq_zero,beq_two];done) | (simp [*,beq_zero,beq_two];omega)
 by_cases k3:T.kind=3
 ·rw [k3] at HR ⊢
  go_enter Tryz.func179,Tryz.ntmps179
  go_wp2
  all_goals (go_ret;refine ⟨congrArg (fun b=>Ending.returned (.bool b)) ?_,HB.out _⟩;rw [HR.out])
  all_goals first | (simp [*,beq_zero,beq_two];done) | (simp [*,beq_zero,beq_two];omega)
 by_cases k4:T.kind=4
 ·rw [k4] at HR ⊢
  go_enter Tryz.func179,Tryz.ntmps179
  go_wp2
  all_goals (go_ret;refine ⟨congrArg (fun b=>Ending.returned (.bool b)) ?_,HB.out _⟩;rw [HR.out])
  all_goals first | (simp [*,beq_zero,beq_two];done) | (simp [*,beq_zero,beq_two];omega)
 have g1:(T.kind == 1)=false:=by simpa using k1
 have g2:(T.kind == 2)=false:=by simpa using k2
 have g3:(T.kind == 3)=false:=by simpa using k3
 have g4:(T.kind == 4)=false:=by simpa using k4
 have HR2:Hid (r=false):=Lib.hid (by rw [HR.out];simp [k1,k2,k3,k4])
 clear k1 k2 k3 k4
 go_enter Tryz.func179,Tryz.ntmps179
 go_wp2
 go_ret
 exact ⟨by rw [HR2.out];rfl,HB.out _⟩
end Go.Proofs.YtaalbcfpacpgfaaGreat
namespace Go.Par
open Go Go.RowKit
section
variable {F:Fence} {n:Nat} {P:Program} {α:Type}
def AbBQ {β:Type} (J:β→World→Prop):Prop:=∀ s W W',J s W→Below W.heap.size W W'→J s W'
def SeqToldQ (F:Fence) (n:Nat) (P:Program) (g:Nat) (lb:Array Value) (encs:α→Array Value) (C:α→World→Prop) (R:World→Prop) (Kp:World→World→Prop) (S Sp:List α→Prop) (N:Nat) (w:World):Prop :=
 ∀ (l:Nat) (J Jx:List α→World→Prop) (W:World),Below w.heap.size w W→AbBQ J→AbBQ Jx→(∀ pre W1,J pre W1→R W1) →
  (∀ pre x W1,J pre W1→C x W1→pre.length < N→YieldAt F (n - 1) P l (encs x) W1 fun e W'=>(e=.returned (.bool true)∧J (pre ++ [x]) W'∧Kp W1 W')∨(e=.returned (.bool false)∧Jx (pre ++ [x]) W')) →
  J [] W→CallsIn F n P g (#[.func (.yield l) #[] #[]] ++ lb) W fun e W'=>(∃ v,e=.returned v)∧((∃ xs,S xs∧J xs W')∨(∃ pre,Sp pre∧Jx pre W'))
structure BooksQ (q:Nat) (r:Loop) (W:World):Prop where
 loop:W.heap[q+1]? = some (.loop r)
 calls:W.heap[q]? = some (.deferred (some []))
theorem BooksQ.put {q:Nat} {r r':Loop} {W:World} (h:BooksQ q r W):BooksQ q r' (W.putObj (q+1) (.loop r')) :=
 ⟨World.putObj_heap_same (Array.getElem?_eq_some_iff.1 h.loop).1,(World.putObj_heap_other (by omega)).trans h.calls⟩
theorem BooksQ.below {q:Nat} {r:Loop} {W W':World} (h:BooksQ q r W) (hb:Below W.heap.size W W'):BooksQ q r W' :=
 ⟨(hb.block _ (Typ.lt_blk h.loop)).trans h.loop,(hb.block _ (Typ.lt_blk h.calls)).trans h.calls⟩
def KeepBQ (q:Nat) (W W':World):Prop:=∀ r,BooksQ q r W→BooksQ q r W'
def AbPQ {β:Type} (q:Nat) (I:β→World→Prop):Prop:=∀ s W r r',BooksQ q r W→I s W→I s (W.putObj (q+1) (.loop r'))
def toldPostQ (q:Nat) (Kp:World→World→Prop) (I:List α→World→Prop) (Ix:Code→List α→World→Prop) (xs:List α) (W:World):Exit→Act→World→Prop
 | .normal,_,W'=>KeepBQ q W W'∧Kp W W'∧I xs W'
 | .ret,_,W'=>KeepBQ q W W'∧Ix .ret xs W'
 | .exit id,_,W'=>KeepBQ q W W'∧Ix (.exit id) xs W'
 | .goto t,_,W'=>KeepBQ q W W'∧Ix (.goto t) xs W'
 | .panic _,_,_=>False
 | .outgrown,_,_=>False
theorem wpIn_range_toldQ {g:Operand} {ps:Array Tmp} {assign body:Code} {Q:Exit→Act→World→Prop} {a:Act} {w:World}
  (hro:F.round=none) (h1:1≤n) {gf:Nat} {lb:Array Value} (hg:a.eval g=.func (.func gf) #[] lb) (hFg:F.fn gf) (eg:∀ args w,(callFunc gf args).run P w=.ok (.enter gf args) w)
  {encs:α→Array Value} {C:α→World→Prop} {R:World→Prop} {Kp:World→World→Prop} {S Sp:List α→Prop} {N:Nat} (hseq:SeqToldQ F (n - 1) P gf lb encs C R Kp S Sp N w)
  (hKt:∀ {A B C:World},Kp A B→Kp B C→Kp A C) (hKn:∀ {A B:World},R A→Below A.heap.size A B→Kp A B) (hKb:∀ (W:World) r r',BooksQ w.heap.size r W→Kp W (W.putObj (w.heap.size+1) (.loop r'))) (hps:∀ x,(encs x).size=ps.size)
  (I:List α→World→Prop) (Ix:Code→List α→World→Prop) (hI:AbBQ I) (hIp:AbPQ w.heap.size I) (hIx:∀ c,AbBQ (Ix c)) (hIxp:∀ c,AbPQ w.heap.size (Ix c)) (hCb:AbBQ C) (hCp:AbPQ w.heap.size C) (hIR:∀ pre W,I pre W→R W) (h0:I [] w) (Ax:α→Act→World→Prop) (hAxp:∀ x a' W r r',BooksQ w.heap.size r W→Ax x a' W→Ax x a' (W.putObj (w.heap.size+1) (.loop r')))
  (hassign:∀ (l:Nat) (x:α) (W:World) (K:Act→World→Prop),C x W→(∀ a' W',Below W.heap.size W W'→Ax x a' W'→K a' W') →
   assign.wpIn (F.inRound l) (n - 1 - 1) P (Exit.then K (fun _ _ _=>False)) { tmps:=(ps.zip (encs x)).foldl (fun t (p,v)=>t.setIfInBounds p v) a.tmps,defers:=[] } W)
  (hbody:∀ (l:Nat) (pre:List α) (x:α) (a':Act) (W:World),I pre W→C x W→pre.length < N→Ax x a' W→(∃ r,BooksQ w.heap.size r W)→body.wpIn (F.inRound l) (n - 1 - 1) P (toldPostQ w.heap.size Kp I Ix (pre ++ [x]) W) a' W)
  (hdone:∀ (xs:List α) (W:World),S xs→I xs W→W.heap[w.heap.size]? = some (.deferred (some []))→Q .normal { a with defers:={ target:=.collected w.heap.size,args:=#[] } :: a.defers } W)
  (hstop:∀ (c:Code) (pre:List α) (W:World),Sp pre→Ix c pre W→W.heap[w.heap.size]? = some (.deferred (some []))→c.wpIn F n P Q { a with defers:={ target:=.collected w.heap.size,args:=#[] } :: a.defers } W) :
  (Code.rangeFunc g ps assign body).wpIn F n P Q a w:=by
 refine wpIn_rangeFunc fun fn hfn=>?_
 rw [hro]
 obtain ⟨L,hL⟩:∃ L:LoopState→Option Code→Loop,L=fun st pe=>{ state:=st,pending:=pe,fn,tmps:=a.tmps,params:=ps,assign,body,defers:=w.heap.size }:=⟨_,rfl⟩
 obtain ⟨q,hq⟩:∃ q,q=w.heap.size:=⟨_,rfl⟩
 have hbk:BooksQ q (L .ready none) ((w.alloc (.deferred (some []))).alloc (.loop (L .ready none))):=by
  refine ⟨?_,?_⟩
  ·have:=World.alloc_heap_new (w.alloc (.deferred (some []))) (.loop (L .ready none));rwa [World.size_alloc,←hq] at this
  ·rw [hq];exact (Below.heap_alloc _ _ _ (by simp)).trans (World.alloc_heap_new w _)
 have hbw:Below w.heap.size w ((w.alloc (.deferred (some []))).alloc (.loop (L .ready none))):=((Below.refl _ w).alloc (Nat.le_refl _) _).alloc (by simp) _
 have hi0:I [] ((w.alloc (.deferred (some []))).alloc (.loop (L .ready none))):=hI _ _ _ h0 hbw
 have henter:=run_enterLoop_outer (P:=P) (w:=w) fn a.tmps ps assign body
 rw [←hq] at hIp hCp hAxp hbody hKb hdone hstop
 replace hIxp:∀ c,AbPQ q (Ix c):=by rw [hq];exact hIxp
 obtain ⟨W1,hW1⟩:∃ W1,W1=(w.alloc (.deferred (some []))).alloc (.loop (L .ready none)):=⟨_,rfl⟩
 rw [←hW1] at hbk hbw hi0
 refine ⟨w.heap.size+1,[{ target:=.collected w.heap.size,args:=#[] }],W1,{ target:=.fn (.func gf) lb,args:=#[.func (.yield (w.heap.size+1)) #[] #[]] },W1,gf,#[.func (.yield (w.heap.size+1)) #[] #[]] ++ lb,W1,?_,?_,?_,?_,fun _=>h1,?_⟩
 ·rw [hW1,hL];exact henter
 ·simp only [resolve,hg]
  simp [go_sem]
 ·intro f' hf';simp [Target.leads] at hf';subst hf';exact hFg
 ·simp [invoke,go_sem,eg]
 rw [←hq]
 refine (hseq (q+1) (fun pre W=>I pre W∧BooksQ q (L .ready none) W) (fun pre W=>∃ c,Ix c pre W∧BooksQ q (L .done (some c)) W) W1 hbw
  (fun s A B hs hb=>⟨hI s A B hs.1 hb,hs.2.below hb⟩)
  (fun s A B ⟨c,hc,hk⟩ hb=>⟨c,hIx c s A B hc hb,hk.below hb⟩)
  (fun pre W h=>hIR pre W h.1) ?_ ⟨hi0,hbk⟩).mono ?_
 ·rintro pre x W ⟨hi,hk⟩ hcx hlen
  have hy:=run_yield (P:=P) (args:=encs x) hk.loop (by rw [hL];exact hps x)
  rw [hL] at hy
  refine ⟨fn,_,assign,body,hy,roundIn_of_wpIn hfn (hassign _ x W _ hcx fun a' Wa hba hax=>?_)⟩
  have hkA:BooksQ q (L .ready none) Wa:=hk.below hba
  refine ⟨_,run_beginRound hkA.loop (by rw [hL]),?_⟩
  have hk2:BooksQ q { L .ready none with state:=.busy } (Wa.putObj (q+1) (.loop { L .ready none with state:=.busy })):=hkA.put
  have hkp:Kp W (Wa.putObj (q+1) (.loop { L .ready none with state:=.busy })):=hKt (hKn (hIR _ _ hi) hba) (hKb _ _ _ hkA)
  have hend:∀ (jump:Option Code) (W3:World),KeepBQ q (Wa.putObj (q+1) (.loop { L .ready none with state:=.busy })) W3 →
    (Instr.endRound (q+1) jump).run P W3=.ok (.bool jump.isNone) (W3.putObj (q+1) (.loop (L (if jump.isNone then .ready else .done) jump)))∧BooksQ q { L .ready none with state:=.busy } W3:=fun jump W3 hk3=>by
   have h3:=hk3 _ hk2
   have:=run_endRound (P:=P) jump h3.loop
   rw [hL] at this h3 ⊢
   exact ⟨this,h3⟩
  refine wpIn_mono (hbody _ pre x a' _ (hIp _ _ _ _ hkA (hI _ _ _ hi hba)) (hCp _ _ _ _ hkA (hCb _ _ _ hcx hba)) hlen (hAxp _ _ _ _ _ hkA hax) ⟨_,hk2⟩) ?_
  rintro e a3 W3 hp
  cases e with
  | normal =>
   obtain ⟨hr,h3⟩:=hend none W3 hp.1
   exact ⟨_,_,hr,.inl ⟨rfl,⟨hIp _ _ _ _ h3 hp.2.2,h3.put⟩,hKt (hKt hkp hp.2.1) (hKb _ _ _ h3)⟩⟩
  | ret =>
   obtain ⟨hr,h3⟩:=hend (some .ret) W3 hp.1
   exact ⟨_,_,hr,.inr ⟨rfl,.ret,hIxp _ _ _ _ _ h3 hp.2,h3.put⟩⟩
  | exit id =>
   obtain ⟨hr,h3⟩:=hend (some (.exit id)) W3 hp.1
   exact ⟨_,_,hr,.inr ⟨rfl,.exit id,hIxp _ _ _ _ _ h3 hp.2,h3.put⟩⟩
  | goto t =>
   obtain ⟨hr,h3⟩:=hend (some (.goto t)) W3 hp.1
   exact ⟨_,_,hr,.inr ⟨rfl,.goto t,hIxp _ _ _ _ _ h3 hp.2,h3.put⟩⟩
  | panic ch=>exact hp.elim
  | outgrown=>exact hp.elim
 ·rintro e W2 ⟨⟨v,rfl⟩,(⟨xs,hS,hi,hk⟩ | ⟨pre,hSp,c,hi,hk⟩)⟩
  ·have hr:=run_endLoop (P:=P) hk.loop (by rw [hL];simp)
   rw [hL] at hr
   exact ⟨none,_,hr,by rw [←hq];exact hdone xs _ hS (hIp _ _ _ _ hk hi) ((World.putObj_heap_other (by omega)).trans hk.calls)⟩
  ·have hr:=run_endLoop (P:=P) hk.loop (by rw [hL];simp)
   rw [hL] at hr
   exact ⟨some c,_,hr,by rw [←hq];exact hstop c pre _ hSp (hIxp _ _ _ _ _ hk hi) ((World.putObj_heap_other (by omega)).trans hk.calls)⟩
end
end Go.Par
namespace Go.Typ
mutual
def Ty.list:Ty→List Ty
 | .mk k n s ts=>.mk k n s ts :: listL ts
def listL:List Ty→List Ty
 | []=>[]
 | t :: ts=>t.list ++ listL ts
end
theorem Ty.list_eq (T:Ty):T.list=T :: listL T.args:=by cases T;rw [Ty.list];rfl
theorem listL_append:∀ (a b:List Ty),listL (a ++ b)=listL a ++ listL b
 | [],b=>by simp [listL]
 | t :: a,b=>by simp [listL,listL_append a b]
theorem listL_take {ts:List Ty} {k:Nat} (h:k < ts.length):listL (ts.take (k+1))=listL (ts.take k) ++ ts[k].list:=by
 rw [List.take_succ_eq_append_getElem h,listL_append]
 simp [listL]
theorem listL_prefix {ts:List Ty} {k:Nat} (h:k < ts.length):listL (ts.take k) ++ ts[k].list <+: listL ts:=by
 rw [←listL_take h]
 refine ⟨listL (ts.drop (k+1)),?_⟩
 rw [←listL_append,List.take_append_drop]
mutual
theorem Ty.list_length:∀ T:Ty,T.list.length=T.parts
 | .mk k n s ts=>by rw [Ty.list,Ty.parts,List.length_cons,listL_length ts];omega
theorem listL_length:∀ ts:List Ty,(listL ts).length=partsL ts
 | []=>rfl
 | t :: ts=>by rw [listL,partsL,List.length_append,Ty.list_length t,listL_length ts]
end
end Go.Typ
namespace Go.Proofs.YtaalbcfpacpgfaaGreat
open Go.RowKit Go.Lib Go.Vfs Go.Par Go.Typ Go.Shelf
attribute [local go_sem] Oper.semAt_some
theorem yield_any {P:Program} {m:Nat} (m':Nat) {l:Nat} {args:Array Value} {W:World} {R:Ending→World→Prop} (h:YieldAt Fence.wide m P l args W R):YieldAt Fence.wide m' P l args W R:=by
 obtain ⟨fn,tmps,assign,body,hy,hR⟩:=h
 exact ⟨fn,tmps,assign,body,hy,hR.1,fun c cs _=>hR.2 c cs (fun d h=>by cases h)⟩
structure TyKQ (n₀:Nat) (W W':World):Prop where
 below:Below n₀ W W'
 le:W.heap.size≤W'.heap.size
 same:∀ (k:Nat) (cs:Array Value) (fz:Nat × Nat),W.heap[k]? = some (.cells cs 61 fz)→W'.heap[k]? = W.heap[k]?
theorem TyKQ.t {n₀:Nat} {A B C:World} (h:TyKQ n₀ A B) (k:TyKQ n₀ B C):TyKQ n₀ A C :=
 ⟨h.below.trans k.below,Nat.le_trans h.le k.le,fun i cs fz hi=>(k.same i cs fz ((h.same i cs fz hi).trans hi)).trans (h.same i cs fz hi)⟩
theorem TyKQ.of {n₀:Nat} {W W':World} (hn:n₀≤W.heap.size) (h:Below W.heap.size W W'):TyKQ n₀ W W':=⟨h.mono hn,h.size,fun k cs fz hk=>h.block k (lt_blk hk)⟩
set_option maxRecDepth 100000 in
set_option maxHeartbeats 2000000 in
theorem walk_in (l n₀ N:Nat) (J Jx:List (Value × Ty)→World→Prop) (hJ:AbBQ J) (hn:∀ pre W,J pre W→n₀≤W.heap.size)
  (hY:∀ (m:Nat) pre x W1,J pre W1→TyAt (· < n₀) W1 x.1 x.2→pre.length < N→YieldAt Fence.wide m Tryz.prog l #[x.1] W1 fun e W'=>(e=.returned (.bool true)∧J (pre ++ [x]) W'∧TyKQ n₀ W1 W')∨(e=.returned (.bool false)∧Jx (pre ++ [x]) W')) (T:Ty) :
  ∀ (n:Nat) (v:Value) (pre:List (Value × Ty)) (W:World),TyAt (· < n₀) W v T→J pre W→pre.length+T.parts≤N →
   CallsIn Fence.wide n Tryz.prog 194 #[v,.func (.yield l) #[] #[]] W fun e W' =>
    (e=.returned (.bool true)∧(∃ q,q.map Prod.snd=T.list∧J (pre ++ q) W')∧TyKQ n₀ W W')∨(e=.returned (.bool false)∧∃ q,q.map Prod.snd <+: T.list∧Jx (pre ++ q) W'):=by
 induction T using Ty.ind with
 | h T ih =>
  intro n v pre W hT hj hN
  obtain ⟨A,c,rfl,hc,hm,hnm⟩:=hT.form
  have hla:T.args.length≤9223372036854775807:=by simp only [maxLen] at hm;omega
  have IH:=Lib.hid ih;have HY:=Lib.hid hY;have HJA:=Lib.hid hJ;have HNN:=Lib.hid hn;have HT:=Lib.hid hT
  obtain ⟨W1,hW1⟩:∃ W1,W1=W.alloc (.cells #[.int .i64 T.kind,.int .i64 T.num,.string T.name,.slice A T.args.length c] 61):=⟨_,rfl⟩
  have hb1:Below W.heap.size W W1:=by rw [hW1];exact (Below.refl _ _).alloc (Nat.le_refl _) _
  have hj1:J pre W1:=hJ _ _ _ hj hb1
  have h0:=hn _ _ hj
  have hT1:TyAt (· < n₀) W1 (tyV T.kind T.num T.name A T.args.length c) T:=hT.keep fun g hg=>⟨hg,hb1.block g (by omega)⟩
  obtain ⟨fn,tmps,assign,body,hy,hR⟩:=hY (n - 1) pre (tyV T.kind T.num T.name A T.args.length c,T) W1 hj1 hT1 (by have:=T.parts_pos;omega)
  have HBX:Hid (W1.heap[W.heap.size]? = some (.cells #[.int .i64 T.kind,.int .i64 T.num,.string T.name,.slice A T.args.length c] 61 (0,0))):=Lib.hid (by rw [hW1];exact heap_alloc_new _ _)
  have HB1:=Lib.hid (TyKQ.of h0 hb1)
  have HN:=Lib.hid hN
  obtain ⟨bx,hbx⟩:∃ bx,bx=W.heap.size:=⟨_,rfl⟩
  rw [←hbx] at HBX
  unfold tyV
  dsimp only [tyV] at hy
  clear ih hY hJ hn hT hj hj1 hT1 hb1 hc hm hnm hN
  refine callsIn_of_wp Tryz.func194 rfl trivial ?_ rfl
  simp only [Tryz.ntmps194,List.size_toArray,List.length_cons,List.length_nil,Nat.reduceAdd,Nat.reduceSub,Array.replicate_succ,Array.replicate_zero,List.push_toArray,List.append_toArray,List.nil_append,List.cons_append]
  gi_wp2
  rw [←hW1,←hbx]
  clear hW1 hbx
  rw [hy,Oper.uponIn_round]
  refine ⟨(fun h=>by cases h),?_⟩
  refine hR.mono ?_
  clear hy hR
  rintro e W2 (⟨rfl,hJ2,hk2⟩|⟨rfl,hJx2⟩)
  rotate_left
  ·gi_wp2
   go_ret
   exact .inr ⟨rfl,[(tyV T.kind T.num T.name A T.args.length c,T)],by rw [T.list_eq];exact ⟨listL T.args,by simp⟩,hJx2⟩
  have hbx2:W2.heap[bx]? = some (.cells #[.int .i64 T.kind,.int .i64 T.num,.string T.name,.slice A T.args.length c] 61 (0,0)):=(hk2.same _ _ _ HBX.out).trans HBX.out
  obtain ⟨y0,y1,y2,y3⟩:=box4 hbx2
  have HJ2:=Lib.hid hJ2;have HK2:=Lib.hid (HB1.out.t hk2)
  clear hbx2 hJ2 hk2
  gi_wp2
  gi_loopw [14] (fun iv wr=>∃ (k:Nat) (q:List (Value × Ty)),k≤T.args.length∧iv=.int .i64 k∧Hid (q.map Prod.snd=listL (T.args.take k)∧J (pre ++ (tyV T.kind T.num T.name A T.args.length c,T) :: q) wr∧TyKQ n₀ W wr)) (fun iv _=>T.args.length - (intOf iv).toNat)
  case atStart=>exact ⟨0,[],by omega,rfl,Lib.hid ⟨by simp [listL],HJ2.out,HK2.out⟩⟩
  case round =>
   obtain ⟨k,q,hk,rfl,HQ⟩:=hrel
   by_cases hlt:k < T.args.length
   ·have hTr:=HT.out.keep fun g hg=>⟨hg,HQ.out.2.2.below.block g hg⟩
    obtain ⟨b,off,A',c',rfl,hb,ht,x0,x1,x2,x3⟩:=hTr.arg hlt
    have HCA:Hid (∀ W5,Below wr.heap.size wr W5→CallsIn Fence.wide (n - 1) Tryz.prog 194 #[tyV T.args[k].kind T.args[k].num T.args[k].name A' T.args[k].args.length c',.func (.yield l) #[] #[]] W5 fun e W' =>
      (e=.returned (.bool true)∧Hid ((∃ q2,q2.map Prod.snd=listL (T.args.take (k+1))∧J (pre ++ (tyV T.kind T.num T.name (some ⟨b,off,none⟩) T.args.length c,T) :: q2) W')∧TyKQ n₀ W W'))∨(e=.returned (.bool false)∧Hid (∃ q,q.map Prod.snd <+: T.list∧Jx (pre ++ q) W'))):=Lib.hid fun W5 h5=>by
     have hz:=HNN.out _ _ HQ.out.2.1
     have hn2:(pre ++ (tyV T.kind T.num T.name (some ⟨b,off,none⟩) T.args.length c,T) :: q).length+T.args[k].parts≤N:=by
      have h1:=HN.out
      have h2:=congrArg List.length HQ.out.1
      have h3:=(listL_prefix hlt).length_le
      simp only [List.length_append,Ty.list_length,listL_length,List.length_map] at h2 h3
      rw [T.parts_eq] at h1
      rw [List.length_append,List.length_cons]
      omega
     refine (IH.out k hlt (n - 1) _ _ W5 (ht.keep fun g hg=>⟨hg,h5.block g (by omega)⟩) (HJA.out _ _ _ HQ.out.2.1 h5) hn2).mono ?_
     rintro e W' (⟨rfl,⟨q2,e2,hj2⟩,hk2⟩|⟨rfl,q2,e2,hj2⟩)
     ·refine .inl ⟨rfl,Lib.hid ⟨⟨q ++ q2,?_,?_⟩,HQ.out.2.2.t ((TyKQ.of hz h5).t hk2)⟩⟩
      ·rw [List.map_append,HQ.out.1,e2,listL_take hlt]
      ·simpa using hj2
     ·refine .inr ⟨rfl,Lib.hid ⟨(tyV T.kind T.num T.name (some ⟨b,off,none⟩) T.args.length c,T) :: (q ++ q2),?_,by simpa using hj2⟩⟩
      rw [T.list_eq,List.map_cons,List.map_append,HQ.out.1]
      refine (List.prefix_cons_inj _).2 (List.IsPrefix.trans ?_ (listL_prefix hlt))
      exact (List.prefix_append_right_inj _).2 e2
    have HB5:Hid (∀ o:Obj,Below wr.heap.size wr (wr.alloc o)):=Lib.hid fun o=>(Below.refl _ _).alloc (Nat.le_refl _) o
    clear ht hTr
    generalize T.args[k]=U at *
    unfold tyV at HCA
    gi_wp2_with (refine ⟨trivial,(fun h=>by cases h),?_⟩;gi_at_call 194;refine (HCA.out _ (HB5.out _)).mono ?_;rintro e W6 (⟨rfl,H6⟩ | ⟨rfl,H6⟩))
    ·go_roundw
     case rel =>
      obtain ⟨⟨q2,h1,h2⟩,h3⟩:=H6.out
      exact ⟨k+1,q2,by omega,by go_num,Lib.hid ⟨h1,h2,h3⟩⟩
     case measure=>simp [intOf];omega
    ·go_ret
     exact .inr ⟨rfl,H6.out⟩
   ·have hkl:k=T.args.length:=by omega
    have HE:Hid ((∃ q,q.map Prod.snd=T.list∧J (pre ++ q) wr)∧TyKQ n₀ W wr):=Lib.hid (by
     obtain ⟨h1,h2,h3⟩:=HQ.out
     rw [hkl,List.take_length] at h1
     exact ⟨⟨_ :: q,by rw [T.list_eq,List.map_cons,h1],h2⟩,h3⟩)
    gi_wp2
    go_ret
    exact .inl ⟨rfl,HE.out⟩
end Go.Proofs.YtaalbcfpacpgfaaGreat
namespace Go.Typ
theorem TyAt.live {S:Nat→Prop} {W:World} {v:Value} {T:Ty} (h:TyAt S W v T):TyAt (fun g=>S g∧g < W.heap.size) W v T:=by
 induction h with
 | mk k num name ts A c vs hc hm hn hcell hsub ih =>
  refine .mk k num name ts A c vs hc hm hn (fun h0=>?_) ih
  obtain ⟨b,off,e,hb,hat⟩:=hcell h0
  exact ⟨b,off,e,⟨hb,World.block_lt_of_cell? W _ (hat 0 h0 0 (by omega))⟩,hat⟩
def rightT (T:Ty):Bool:=decide (T.parts≤300) && T.list.all fitsT
end Go.Typ
namespace Go.Proofs.YtaalbcfpacpgfaaGreat
open Go.RowKit Go.Lib Go.Vfs Go.Par Go.Typ Go.Shelf
attribute [local go_sem] Oper.semAt_some
theorem one_cellT {W:World} {b:Nat} {u0:Value} {t:TypeId} (h:W.heap[b]? = some (.cells #[u0] t (0,0))):W.cell? ⟨b,0,none⟩=some u0∧W.frozen? ⟨b,0,none⟩=false:=by
 simp [World.cell?,World.frozen?,h]
theorem one_setT {w:World} {b:Nat} {u x:Value} {t:TypeId} (h:w.heap[b]? = some (.cells #[u] t (0,0))):(w.setCell ⟨b,0,none⟩ x).heap[b]? = some (.cells #[x] t (0,0)):=by
 have:=cells_put h 0 x
 simpa using this
theorem setCell_blk {w:World} {a:Addr} {x:Value} {k:Nat} (h:k≠a.block):(w.setCell a x).heap[k]? = w.heap[k]?:=Below.heap_setCell _ _ _ _ h
theorem below_putO {w W:World} {B q:Nat} {o:Obj} (h:Below B w W) (hq:B≤q):Below B w (W.putObj q o) :=
 ⟨h.os,h.tape,h.output,by have:=h.size;simpa using this,fun k hk=>(World.putObj_heap_other (by omega)).trans (h.block k hk)⟩
theorem keepB_of {q:Nat} {W W':World} (h:∀ k,q≤k→k < W.heap.size→W'.heap[k]? = W.heap[k]?):KeepBQ q W W':=fun r hb =>
 ⟨(h _ (by omega) (lt_blk hb.loop)).trans hb.loop,(h _ (Nat.le_refl _) (lt_blk hb.calls)).trans hb.calls⟩
theorem KeepBQ.t {q:Nat} {A B C:World} (h:KeepBQ q A B) (k:KeepBQ q B C):KeepBQ q A C:=fun r hb=>k r (h r hb)
theorem TyKQ.set {n₀ b:Nat} {W:World} {u x:Value} {t:TypeId} (h:W.heap[b]? = some (.cells #[u] t (0,0))) (ht:t≠61) (hb:n₀≤b):TyKQ n₀ W (W.setCell ⟨b,0,none⟩ x) :=
 ⟨(Below.refl _ _).setCell (p:=⟨b,0,none⟩) hb _,by simp [World.setCell],fun k cs fz hk=>setCell_blk (by
  rintro rfl
  rw [h] at hk
  injection hk with hk
  injection hk with _ hk
  exact ht hk)⟩
theorem parts_any (k num:Int) (name:ByteArray) (A:Option Addr) (n c:Nat) (w:World) :
  Calls Tryz.prog 178 #[tyV k num name A n c] w fun e w'=>e=.returned (.func (.func 193) #[] #[.pointer (some ⟨w.heap.size,0,none⟩)])∧w'=w.alloc (.cells #[.int .i64 k,.int .i64 num,.string name,.slice A n c] 61):=by
 unfold tyV
 go_enter Tryz.func178,Tryz.ntmps178
 go_wp2
 go_ret
 exact ⟨rfl,rfl⟩
set_option maxRecDepth 100000 in
set_option maxHeartbeats 1000000 in
theorem parts_told (w:World) (n n₀ bt:Nat) (T:Ty) (A:Option Addr) (c:Nat) (hbt:w.heap[bt]? = some (.cells #[.int .i64 T.kind,.int .i64 T.num,.string T.name,.slice A T.args.length c] 61 (0,0)))
  (hT:TyAt (· < n₀) w (tyV T.kind T.num T.name A T.args.length c) T) (hn:n₀≤w.heap.size) :
  SeqToldQ Fence.wide n Tryz.prog 193 #[.pointer (some ⟨bt,0,none⟩)] (fun x:Value × Ty=>#[x.1]) (fun x W=>TyAt (· < n₀) W x.1 x.2) (fun W=>n₀≤W.heap.size) (TyKQ n₀) (fun xs=>xs.map Prod.snd=T.list) (fun pre=>pre.map Prod.snd <+: T.list) T.parts w:=by
 intro l J Jx W hW hJ hJx hJR hY h0
 obtain ⟨y0,y1,y2,y3⟩:=box4 ((hW.block bt (lt_blk hbt)).trans hbt)
 have hTW:TyAt (· < n₀) W (tyV T.kind T.num T.name A T.args.length c) T:=hT.keep fun g hg=>⟨hg,hW.block g (by omega)⟩
 have hwk:=walk_in l n₀ T.parts J Jx hJ hJR (fun m pre x W1 hj hc hl=>yield_any m (hY pre x W1 hj hc hl)) T (n - 1) _ [] W hTW h0 (by simp)
 unfold tyV at hwk
 have HW:=Lib.hid hwk
 clear hwk hTW hW hbt hT
 refine callsIn_of_wp Tryz.func193 rfl trivial ?_ rfl
 simp only [Tryz.ntmps193,List.size_toArray,List.length_cons,List.length_nil,Nat.reduceAdd,Nat.reduceSub,Array.replicate_succ,Array.replicate_zero,List.push_toArray,List.append_toArray,List.nil_append,List.cons_append]
 gi_wp2_with (refine ⟨trivial,(fun h=>by cases h),?_⟩;gi_at_call 194;refine HW.out.mono ?_;rintro e W6 (⟨rfl,⟨q,hq,hj⟩,hk⟩ | ⟨rfl,q,hq,hj⟩))
 ·go_end0
  exact ⟨⟨_,rfl⟩,.inl ⟨q,hq,by simpa using hj⟩⟩
 ·go_end0
  exact ⟨⟨_,rfl⟩,.inr ⟨q,hq,by simpa using hj⟩⟩
structure RQ (w:World) (b1 b2 q:Nat):Prop where
 l1:w.heap.size≤b1
 l2:w.heap.size≤b2
 h1:b1 < q
 h2:b2 < q
 ne:b1≠b2
structure RI (w:World) (b1 b2 q:Nat) (pre:List (Value × Ty)) (W:World):Prop where
 res:W.heap[b1]? = some (.cells #[.bool false] 4 (0,0))
 cnt:W.heap[b2]? = some (.cells #[.int .i64 (pre.length:Nat)] 3 (0,0))
 few:pre.length≤300
 fit:∀ x∈pre,fitsT x.2=true
 below:Below w.heap.size w W
 size:q≤W.heap.size
structure RB (w:World) (b1 q:Nat) (pre:List (Value × Ty)) (W:World):Prop where
 res:W.heap[b1]? = some (.cells #[.bool false] 4 (0,0))
 bad:300 < pre.length∨∃ x∈pre,fitsT x.2=false
 below:Below w.heap.size w W
 size:q≤W.heap.size
section
variable {w W W':World} {b1 b2 q:Nat} {pre:List (Value × Ty)}
theorem RI.put {p:Nat} {o:Obj} (hq:RQ w b1 b2 q) (h:RI w b1 b2 q pre W) (hp:q≤p):RI w b1 b2 q pre (W.putObj p o):=by
 obtain ⟨l1,l2,h1,h2,ne⟩:=hq
 exact ⟨(World.putObj_heap_other (by omega)).trans h.res,(World.putObj_heap_other (by omega)).trans h.cnt,h.few,h.fit,below_putO h.below (by omega),by have:=h.size;simpa using this⟩
theorem RB.put {p:Nat} {o:Obj} (hq:RQ w b1 b2 q) (h:RB w b1 q pre W) (hp:q≤p):RB w b1 q pre (W.putObj p o):=by
 obtain ⟨l1,l2,h1,h2,ne⟩:=hq
 exact ⟨(World.putObj_heap_other (by omega)).trans h.res,h.bad,below_putO h.below (by omega),by have:=h.size;simpa using this⟩
theorem RI.blw (hq:RQ w b1 b2 q) (h:RI w b1 b2 q pre W) (hb:Below W.heap.size W W'):RI w b1 b2 q pre W':=by
 have hs:=h.size
 obtain ⟨l1,l2,h1,h2,ne⟩:=hq
 exact ⟨(hb.block _ (by omega)).trans h.res,(hb.block _ (by omega)).trans h.cnt,h.few,h.fit,h.below.trans (hb.mono (by omega)),by have:=hb.size;omega⟩
theorem RB.blw (hq:RQ w b1 b2 q) (h:RB w b1 q pre W) (hb:Below W.heap.size W W'):RB w b1 q pre W':=by
 have hs:=h.size
 obtain ⟨l1,l2,h1,h2,ne⟩:=hq
 exact ⟨(hb.block _ (by omega)).trans h.res,h.bad,h.below.trans (hb.mono (by omega)),by have:=hb.size;omega⟩
end
theorem fin_bool {w W:World} {tm:Array Value} {q b:Nat} {r:Bool} (t2:tm.getD 2 undef=.pointer (some ⟨b,0,none⟩)) (hd:W.heap[q]? = some (.deferred (some []))) (h2:W.heap[b]? = some (.cells #[.bool r] 4 (0,0))) (hb:Below w.heap.size w W) (hq:b≠q) (hz:w.heap.size≤q) :
  bodyPostM Fence.wide 7 Tryz.prog Tryz.f157 (fun e' w'=>e'=.returned (.bool r)∧Below w.heap.size w w') .ret { tmps:=tm,defers:=[{ target:=.collected q,args:=#[] }] } W:=by
 refine ⟨by simp,.inl ⟨_,_,rfl,run_takeDeferred hd,?_⟩⟩
 have k2:(W.putObj q (.deferred none)).cell? ⟨b,0,none⟩=some (.bool r):=(one_cellT ((World.putObj_heap_other hq).trans h2)).1
 refine ⟨.bool r,?_,rfl,below_putO hb hz⟩
 have hrs:Tryz.f157.results=#[.cell 2 4]:=rfl
 have a3:=Tryz.isAgg4;have z3:=Tryz.sizeOf4
 have t2':tm[2]?.getD undef=.pointer (some ⟨b,0,none⟩):=by simpa using t2
 simp [results,hrs,t2',k2,go_sem]
set_option maxRecDepth 100000 in
set_option maxHeartbeats 2000000 in
theorem right_any (T:Ty) (v:Value) (w:World) (hT:TyAt (· < w.heap.size) w v T) :
  Calls Tryz.prog 157 #[v] w fun e w'=>e=.returned (.bool (rightT T))∧Below w.heap.size w w':=by
 obtain ⟨A,c,rfl,hc,hm,hnm⟩:=hT.form
 have HT:=Lib.hid hT
 clear hT hc hm hnm
 unfold tyV
 refine (callsIn_wide (n:=7)).1 ?_
 refine callsIn_of_wp_marks Tryz.func157 rfl trivial ?_ rfl
 simp only [Tryz.ntmps157,List.size_toArray,List.length_cons,List.length_nil,Nat.reduceAdd,Nat.reduceSub,Array.replicate_succ,Array.replicate_zero,List.push_toArray,List.append_toArray,List.nil_append,List.cons_append]
 gi_wp2_with (refine ⟨trivial,?_⟩;gi_at_call 178;refine (callsIn_wide.2 (parts_any _ _ _ _ _ _ _)).mono ?_;rintro e w1 ⟨rfl,rfl⟩)
 obtain ⟨W0,hW0⟩:∃ W0,W0=((((w.alloc (.cells #[.int .i64 T.kind,.int .i64 T.num,.string T.name,.slice A T.args.length c] 61)).alloc (.cells #[.bool false] 4)).alloc (.cells #[.int .i64 0] 3)).alloc (.cells #[.int .i64 T.kind,.int .i64 T.num,.string T.name,.slice A T.args.length c] 61)):=⟨_,rfl⟩
 rw [←hW0]
 have hs0:W0.heap.size=w.heap.size+4:=by rw [hW0];simp
 have hb0:Below w.heap.size w W0:=by
  rw [hW0]
  exact ((((Below.refl _ w).alloc (Nat.le_refl _) _).alloc (by simp) _).alloc (by simp;omega) _).alloc (by simp;omega) _
 have hk4:W0.heap[w.heap.size+1]? = some (.cells #[.bool false] 4 (0,0))∧W0.heap[w.heap.size+2]? = some (.cells #[.int .i64 0] 3 (0,0))∧W0.heap[w.heap.size+3]? = some (.cells #[.int .i64 T.kind,.int .i64 T.num,.string T.name,.slice A T.args.length c] 61 (0,0)):=by
  rw [hW0]
  simp only [World.alloc,Array.getElem?_push,Array.size_push]
  refine ⟨?_,?_,?_⟩ <;> simp <;> omega
 obtain ⟨k1,k2,k3⟩:=hk4
 clear hW0
 have hT0:TyAt (· < w.heap.size) W0 (tyV T.kind T.num T.name A T.args.length c) T:=HT.out.keep fun g hg=>⟨hg,hb0.block g hg⟩
 have e2:w.heap.size+1+1=w.heap.size+2:=rfl
 have e3:w.heap.size+2+1=w.heap.size+3:=rfl
 rw [e2,e3]
 have hbt:w.heap.size+3 < W0.heap.size:=by omega
 obtain ⟨b0,hb0'⟩:∃ b,b=w.heap.size:=⟨_,rfl⟩
 obtain ⟨b1,hb1'⟩:∃ b,b=w.heap.size+1:=⟨_,rfl⟩
 obtain ⟨b2,hb2'⟩:∃ b,b=w.heap.size+2:=⟨_,rfl⟩
 obtain ⟨b3,hb3'⟩:∃ b,b=w.heap.size+3:=⟨_,rfl⟩
 have HRQ:Hid (RQ w b1 b2 (w.heap.size+4)):=Lib.hid ⟨by omega,by omega,by omega,by omega,by omega⟩
 rw [←hb1'] at k1;rw [←hb2'] at k2;rw [←hb3'] at k3
 rw [←hb1',←hb2',←hb3']
 have HLT:=Lib.hid (parts_told W0 6 w.heap.size b3 T A c k3 hT0 (by omega))
 have HRI0:Hid (RI w b1 b2 (w.heap.size+4) [] W0):=Lib.hid ⟨k1,k2,by simp,by simp,hb0,by omega⟩
 have HS0:=Lib.hid hs0
 clear k1 k2 k3 hT0 hb0 hs0 hbt e2 e3 hb1' hb2' hb3'
 refine wpIn_range_toldQ (F:=Fence.wide) rfl (by omega) (gf:=193) (lb:=#[.pointer (some ⟨b3,0,none⟩)]) rfl trivial (enters_of Tryz.func193 (by kernel_rfl) rfl)
  HLT.out (fun h k=>h.t k) ?hKn ?hKb (fun _=>rfl)
  (fun pre W=>RI w b1 b2 (w.heap.size+4) pre W) (fun cd xs W=>cd=.ret∧RB w b1 (w.heap.size+4) xs W) ?hI ?hIp ?hIx ?hIxp ?hCb ?hCp ?hIR HRI0.out
  (fun x a' W=>∃ bp A' c',x.1=tyV x.2.kind x.2.num x.2.name A' x.2.args.length c'∧W.heap[bp]? = some (.cells #[.int .i64 x.2.kind,.int .i64 x.2.num,.string x.2.name,.slice A' x.2.args.length c'] 61 (0,0))∧a'={ tmps:=#[.agg #[.int .i64 T.kind,.int .i64 T.num,.string T.name,.slice A T.args.length c],.pointer (some ⟨w.heap.size,0,none⟩),.pointer (some ⟨b1,0,none⟩),.pointer (some ⟨b2,0,none⟩),.pointer (some ⟨bp,0,none⟩),.agg #[.int .i64 T.kind,.int .i64 T.num,.string T.name,.slice A T.args.length c],.func (.func 193) #[] #[.pointer (some ⟨b3,0,none⟩)],x.1,undef,undef,undef,undef,undef,undef,undef,undef,undef],defers:=[] })
  ?hAxp ?assign ?body ?done ?stop
 case hKn=>exact fun hr hb=>TyKQ.of hr hb
 case hKb =>
  intro W r r' hbk
  refine ⟨below_putO (Below.refl _ _) (by have:=HS0.out;omega),by simp,fun k cs fz hk=>World.putObj_heap_other ?_⟩
  rintro rfl
  rw [hbk.loop] at hk
  cases hk
 case hI=>exact fun pre X Y hi hb=>RI.blw HRQ.out hi hb
 case hIp=>exact fun pre X r r' _ hi=>RI.put HRQ.out hi (by have:=HS0.out;omega)
 case hIx=>exact fun cd pre X Y hi hb=>⟨hi.1,RB.blw HRQ.out hi.2 hb⟩
 case hIxp=>exact fun cd pre X r r' _ hi=>⟨hi.1,RB.put HRQ.out hi.2 (by have:=HS0.out;omega)⟩
 case hCb=>exact fun x X Y hx hb=>hx.live.keep fun g hg=>⟨hg.1,hb.block g hg.2⟩
 case hCp=>exact fun x X r r' _ hx=>hx.keep fun g hg=>⟨hg,World.putObj_heap_other (by have:=HS0.out;omega)⟩
 case hIR=>exact fun pre W hi=>hi.below.size
 case hAxp =>
  rintro x a' W r r' hbk ⟨bp,A',c',e1,e2,e4⟩
  refine ⟨bp,A',c',e1,(World.putObj_heap_other ?_).trans e2,e4⟩
  rintro rfl
  rw [hbk.loop] at e2
  cases e2
 case assign =>
  rintro l0 x W K hC hK
  obtain ⟨A',c',e1,-,-,-⟩:=hC.form
  obtain ⟨x1,U⟩:=x
  dsimp only at e1
  subst e1
  have HK:=Lib.hid hK;clear hK
  unfold tyV at HK ⊢
  gi_wp2
  refine HK.out _ _ ((Below.refl _ _).alloc (Nat.le_refl _) _) ⟨W.heap.size,A',c',rfl,heap_alloc_new _ _,rfl⟩
 case body =>
  rintro l0 pre ⟨x1,U⟩ a' W hi hC hlen ⟨bp,A',c',e1,hbp,rfl⟩ ⟨rr,hbk⟩
  dsimp only at e1 hC hbp
  subst e1
  have hne:bp≠b2:=by
   rintro rfl
   rw [hi.cnt] at hbp
   simp at hbp
  have hne2:¬ (b2=bp):=fun h=>hne h.symm
  obtain ⟨c0,f0⟩:=one_cellT hi.cnt
  obtain ⟨z0,z1,z2,z3⟩:=box4 hbp
  have h300:=hi.few
  have HI:=Lib.hid hi;have HC:=Lib.hid hC;have HBK:=Lib.hid hbk
  have hb1n:=HRQ.out.ne
  obtain ⟨c1,f1⟩:=one_cellT hi.res
  have hf60:Fence.wide.fn 179:=trivial
  have hz:=hi.size
  have hsz:=hi.below.size
  obtain ⟨W2,hW2⟩:∃ W2,W2=W.setCell ⟨b2,0,none⟩ (.int .i64 ((pre.length:Int)+1)):=⟨_,rfl⟩
  have HZ2:Hid (W2.heap.size=W.heap.size):=Lib.hid (by rw [hW2];simp [World.setCell])
  have HK2:Hid (TyKQ w.heap.size W W2):=Lib.hid (by rw [hW2];exact TyKQ.set hi.cnt (by decide) HRQ.out.l2)
  have HBK2:Hid (KeepBQ W0.heap.size W W2):=Lib.hid (by
   rw [hW2];exact keepB_of fun k hk _=>setCell_blk (by have:=HRQ.out.h2;have:=HS0.out;dsimp only;omega))
  have HCN2:Hid (W2.heap[b2]? = some (.cells #[.int .i64 ((pre.length:Int)+1)] 3 (0,0))):=Lib.hid (by rw [hW2];exact one_setT hi.cnt)
  have HRS2:Hid (W2.heap[b1]? = some (.cells #[.bool false] 4 (0,0))):=Lib.hid (by rw [hW2,setCell_blk hb1n];exact hi.res)
  have HF:=Lib.hid (fits_any U _ W2 ((hC.keep (S':=(· < w.heap.size)) fun g hg=>⟨hg,HK2.out.below.block g hg⟩).sub fun g hg=>by have:=HZ2.out;omega))
  have HW2:=Lib.hid hW2
  clear hi hC hbk hbp hW2
  unfold tyV at HF ⊢
  rw [HW2.out] at HF
  obtain ⟨q,hq⟩:∃ q,q=fitsT U:=⟨_,rfl⟩
  rw [←hq] at HF
  have HQ:=Lib.hid hq
  clear hq
  by_cases hover:pre.length=300
  ·have g1:(300:Int) < (pre.length:Int)+1:=by omega
   have HO:=Lib.hid hover
   clear hover
   gi_wp2
   rw [←HW2.out]
   refine ⟨KeepBQ.t HBK2.out (keepB_of fun k hk _=>setCell_blk (by have:=HRQ.out.h1;have:=HS0.out;dsimp only;omega)),rfl,?_,.inl ?_,?_,?_⟩
   ·exact one_setT HRS2.out
   ·have:=HO.out;rw [List.length_append,List.length_singleton];omega
   ·exact (HI.out.below.trans HK2.out.below).setCell (p:=⟨b1,0,none⟩) HRQ.out.l1 _
   ·have h2:=HZ2.out;have h3:=HI.out.size
    show w.heap.size+4≤(W2.heap.modify _ _).size
    simp;omega
  ·have g1:¬ (300:Int) < (pre.length:Int)+1:=by omega
   have HO:=Lib.hid hover
   clear hover
   cases q
   ·gi_wp2_with (gi_at_call 179;refine (CallsIn.inRound l0 (callsIn_wide.2 HF.out)).mono ?_;rintro e w3 ⟨rfl,HB3⟩;rw [←HW2.out] at HB3;have hr3:=(HB3.block b1 (by have:=HRQ.out.h1;have:=HZ2.out;omega)).trans HRS2.out;obtain ⟨c3,f3⟩:=one_cellT hr3;have HR3:=Lib.hid hr3;clear hr3)
    refine ⟨KeepBQ.t (KeepBQ.t HBK2.out (keepB_of fun k _ hk=>HB3.block k hk)) (keepB_of fun k hk _=>setCell_blk (by have:=HRQ.out.h1;have:=HS0.out;dsimp only;omega)),rfl,?_,.inr ⟨_,List.mem_append_right _ (List.mem_singleton.2 rfl),HQ.out.symm⟩,?_,?_⟩
    ·exact one_setT HR3.out
    ·exact (HI.out.below.trans (HK2.out.below.trans (HB3.mono (by have:=HZ2.out;omega)))).setCell (p:=⟨b1,0,none⟩) HRQ.out.l1 _
    ·have h1:=HB3.size;have h2:=HZ2.out;have h3:=HI.out.size
     show w.heap.size+4≤(w3.heap.modify _ _).size
     simp;omega
   ·gi_wp2_with (gi_at_call 179;refine (CallsIn.inRound l0 (callsIn_wide.2 HF.out)).mono ?_;rintro e w3 ⟨rfl,HB3⟩;rw [←HW2.out] at HB3)
    have hsz3:w.heap.size≤W2.heap.size:=by have:=HZ2.out;omega
    refine ⟨KeepBQ.t HBK2.out (keepB_of fun k _ hk=>HB3.block k hk),HK2.out.t (TyKQ.of hsz3 HB3),?_,?_,?_,?_,?_,?_⟩
    ·exact (HB3.block b1 (by have:=HRQ.out.h1;have:=HZ2.out;omega)).trans HRS2.out
    ·rw [List.length_append,List.length_singleton]
     exact (HB3.block b2 (by have:=HRQ.out.h2;have:=HZ2.out;omega)).trans HCN2.out
    ·have:=HO.out;rw [List.length_append,List.length_singleton];omega
    ·intro y hy
     rcases List.mem_append.1 hy with hy|hy
     ·exact HI.out.fit y hy
     ·rw [List.mem_singleton.1 hy];exact HQ.out.symm
    ·exact HI.out.below.trans (HK2.out.below.trans (HB3.mono hsz3))
    ·have h1:=HB3.size;have h2:=HZ2.out;omega
 case done =>
  rintro xs W hxs hi hK
  obtain ⟨c1,f1⟩:=one_cellT hi.res
  have HI:=Lib.hid hi
  clear hi
  gi_wp2
  have hr:rightT T=true:=by
   unfold rightT
   rw [Bool.and_eq_true,decide_eq_true_iff,List.all_eq_true]
   have h1:=congrArg List.length hxs
   rw [List.length_map,T.list_length] at h1
   refine ⟨by have:=HI.out.few;omega,fun y hy=>?_⟩
   rw [←hxs] at hy
   obtain ⟨x,hx,rfl⟩:=List.mem_map.1 hy
   exact HI.out.fit x hx
  rw [hr]
  refine fin_bool (b:=b1) (by rfl) ?_ (one_setT HI.out.res) (HI.out.below.setCell (p:=⟨b1,0,none⟩) HRQ.out.l1 _) (by have:=HRQ.out.h1;have:=HS0.out;omega) (by have:=HS0.out;omega)
  rw [setCell_blk (by have:=HRQ.out.h1;have:=HS0.out;dsimp only;omega)]
  exact hK
 case stop =>
  rintro cd xs W ⟨rs,hrs⟩ ⟨rfl,hi⟩ hK
  have HI:=Lib.hid hi
  clear hi
  gi_wp2
  have hr:rightT T=false:=by
   unfold rightT
   rw [Bool.and_eq_false_iff,decide_eq_false_iff_not]
   rcases HI.out.bad with h|⟨x,hx,hf⟩
   ·left
    have h1:=congrArg List.length hrs
    rw [T.list_length,List.length_append,List.length_map] at h1
    omega
   ·right
    rw [List.all_eq_false]
    refine ⟨x.2,?_,by rw [hf];simp⟩
    rw [←hrs]
    exact List.mem_append_left _ (List.mem_map_of_mem hx)
  rw [hr]
  exact fin_bool (b:=b1) (by rfl) hK HI.out.res HI.out.below (by have:=HRQ.out.h1;have:=HS0.out;omega) (by have:=HS0.out;omega)
end Go.Proofs.YtaalbcfpacpgfaaGreat
