/- Texts Row RowU IndexOpens of the proof, joined. -/
import Derived.Test.YtaalbcfpacpgfaaGreatRows
import Derived.ProofKit
import Derived.OpenShut
import Derived.ShutString
import Derived.ChangeOld
import Derived.Below
import Derived.SizedLaws
import Derived.Deep.Slices
import Derived.Deep.Fields
import Derived.ChangeSame
import Derived.JoinedCond
import Derived.Test.YtaalbcfpacpgfaaGreatZaM3
import Derived.Test.YtaalbcfpacpgfaaGreatZaIndexOpensWalk
set_option linter.unusedVariables false
set_option linter.unusedSimpArgs false
namespace Go.Proofs.YtaalbcfpacpgfaaGreat
open Go.ChangeShapes Go.WideShapes Go.ChangeAt Go.RowKit Go.Par Go.Lib Go.Shelf
theorem own:ownKnob Tryz.prog.godebug=none:=by kernel_rfl
theorem laidOut:laidOutB Tryz.prog=true:=by kernel_rfl
theorem u8_of (z:Int) (h0:0≤z) (h1:z < 256):(z.toNat.toUInt8).toNat=z.toNat:=by
 simp [Nat.toUInt8,UInt8.toNat_ofNat'];omega
theorem seg_of_ints {W:World} {k:IntKind} {a:Addr} {len cap:Nat} {zs:List Int} (hl:len≤cap) (hm:cap≤maxLen) (hz:zs.length=cap) (hcell:∀ i,i < zs.length→W.cell? (a.add i)=some (.int k (zs.getD i 0))) :
  Seg W W.heap.size (.slice (some a) len cap) ((zs.take len).map (Value.int k)):=by
 have e:((zs.take len).map (Value.int k)).length=len:=by simp;omega
 refine ⟨some a,cap,by rw [e],by rw [e];exact hl,hm,fun hp=>?_⟩
 rw [e] at hp
 have h0:=hcell 0 (by omega)
 obtain ⟨b,off,spot⟩:=a
 have hspot:spot=none:=by simpa [Addr.add] using World.cell?_spot h0
 subst hspot
 refine ⟨b,off,rfl,?_,fun i hi=>?_⟩
 ·have:=World.block_lt_of_cell? _ _ h0
  rw [add_addr] at this
  exact this
 ·rw [e] at hi
  rw [←add_addr,hcell i (by omega)]
  have h1:i < zs.length:=by omega
  simp [hi,h1,List.getD_eq_getElem?_getD]
open Go.ChangeShapes Go.WideShapes Go.ChangeAt Go.RowKit Go.Par Go.Lib Go.Deep
theorem bulk_one {H:Type} (d:DataW H):1≤Rows.uptoBulk d:=by
 cases d with
 | lit l=>cases l <;> simp [Rows.uptoBulk]
 | nil=>simp [Rows.uptoBulk]
 | ptr d=>simp [Rows.uptoBulk]
 | slice elems spare=>simp [Rows.uptoBulk]
 | agg parts=>simp [Rows.uptoBulk]
 | iface t d=>simp [Rows.uptoBulk]
 | map entries=>simp [Rows.uptoBulk]
 | held h=>simp [Rows.uptoBulk]
theorem bulk_length {H:Type} (l:List (DataW H)):l.length≤Rows.uptoBulkAll l:=by
 induction l with
 | nil=>simp [Rows.uptoBulkAll]
 | cons x r ih=>have:=bulk_one x;simp only [Rows.uptoBulkAll,List.length_cons];omega
theorem bulk_snoc {H:Type} (l:List (DataW H)) (x:DataW H):Rows.uptoBulkAll (l ++ [x])=Rows.uptoBulkAll l+Rows.uptoBulk x:=by
 induction l with
 | nil=>simp [Rows.uptoBulkAll]
 | cons y l ih=>simp only [List.cons_append,Rows.uptoBulkAll,ih];omega
theorem bulk_slice {H:Type} (e s:List (DataW H)):Rows.uptoBulkAll e+1≤Rows.uptoBulk (.slice e s):=by
 simp only [Rows.uptoBulk];omega
theorem bulk_sum {H:Type} (D:Nat→DataW H) (f:Nat→Nat) (n:Nat) (h:∀ i,i < n→f i≤Rows.uptoBulk (D i)):((List.range n).map f).sum≤Rows.uptoBulkAll ((List.range n).map D):=by
 induction n with
 | zero=>simp [Rows.uptoBulkAll]
 | succ n ih =>
  rw [List.range_succ,List.map_append,List.map_append,List.sum_append]
  have h1:=ih fun i hi=>h i (by omega)
  have h2:=h n (by omega)
  simp only [List.map_cons,List.map_nil,bulk_snoc,List.sum_cons,List.sum_nil]
  omega
theorem exists_list {α:Type} (n:Nat) (P:Nat→α→Prop) (h:∀ i,i < n→∃ a,P i a):∃ l:List α,l.length=n∧∀ i (hi:i < l.length),P i l[i]:=by
 induction n with
 | zero=>exact ⟨[],rfl,fun i hi=>by simp at hi⟩
 | succ n ih =>
  obtain ⟨l,hl,hp⟩:=ih fun i hi=>h i (by omega)
  obtain ⟨a,ha⟩:=h n (by omega)
  refine ⟨l ++ [a],by simp [hl],fun i hi=>?_⟩
  rw [List.getElem_append]
  split
  ·exact hp i _
  ·have:i=n:=by simp at hi;omega
   subst this
   simpa using ha
theorem sum_range {α:Type} (l:List α) (g:α→Nat) (f:Nat→Nat) (n:Nat) (hn:l.length=n) (h:∀ i (hi:i < l.length),g l[i]=f i):(l.map g).sum=((List.range n).map f).sum:=by
 subst hn
 congr 1
 apply List.ext_getElem
 ·simp
 ·intro i h1 h2
  simp at h1
  simp [h i h1]
section
variable {H:Type} {enc:TypeId × Value→H} {W:World}
set_option maxRecDepth 100000 in
theorem bytes_at {n:Nat} {cs:List Value} {x:DataW H × List MemPlace} (h:DataW.trod enc Tryz.prog W 0 (fun _=>true) true n 24 cs=some x) :
  ∃ v l,cs=[v]∧l.length+1≤Rows.uptoBulk x.1∧Seg W W.heap.size v (byteCells l):=by
 rcases open_ints Tryz.underlying24 Tryz.underlying5 (by kernel_rfl) h with ⟨rfl,rfl⟩|⟨a,l,c,zs,rfl,_,hl,hm,hz,rfl,hcell,hwz⟩
 ·exact ⟨_,[],rfl,by simp [Rows.uptoBulk],Seg.nil _ _⟩
 ·have hbd:∀ n∈zs,0≤n∧n < 256:=fun n hn=>by
   have:=hwz n hn
   simp [Lit.wf,IntKind.min,IntKind.max,IntKind.signed,IntKind.bits] at this
   omega
  refine ⟨_,(zs.take l).map (fun n=>n.toNat.toUInt8),rfl,?_,?_⟩
  ·have h1:=bulk_slice (H:=H) (lits .u8 (zs.take l)) (lits .u8 (zs.drop l))
   have h2:=bulk_length (H:=H) (lits .u8 (zs.take l))
   rw [show (lits (H:=H) .u8 (zs.take l)).length=(zs.take l).length by simp [lits]] at h2
   rw [List.length_map]
   simp only
   omega
  ·have hs:=seg_of_ints hl hm (by simpa using hz) hcell
   have e:byteCells ((zs.take l).map (fun n=>n.toNat.toUInt8))=(zs.take l).map (Value.int .u8):=by
    unfold byteCells
    rw [List.map_map]
    refine List.map_congr_left (fun n hn=>?_)
    have:=hbd n (List.mem_of_mem_take hn)
    show Value.int .u8 ((n.toNat.toUInt8).toNat:Int)=_
    rw [u8_of n this.1 this.2]
    have e2:((n.toNat:Nat):Int)=n:=by omega
    rw [e2]
   exact e.symm ▸ hs
theorem rows_at {n:Nat} {cs:List Value} {x:DataW H × List MemPlace} (h:DataW.trod enc Tryz.prog W 0 (fun _=>true) true n 22 cs=some x) :
  ∃ v ls,cs=[v]∧sizeP ls+1≤Rows.uptoBulk x.1∧RowsAt (· < W.heap.size) W v ls:=by
 rcases open_slice1 Tryz.underlying22 (by kernel_rfl) h with ⟨rfl,rfl⟩|⟨a,l,c,m,n',V,D,Pl,rfl,_,hl,hm,hmm,rfl,hi⟩
 ·exact ⟨_,[],rfl,by simp [Rows.uptoBulk,sizeP],[],rfl,Seg.nil W W.heap.size,fun i hi=>by simp at hi⟩
 ·simp only [if_true] at hmm
  subst hmm
  obtain ⟨ls,hll,hls⟩:=exists_list l (fun i (z:List UInt8)=>z.length+1≤Rows.uptoBulk (D i)∧Seg W W.heap.size (V i) (byteCells z)) (fun i hil=>by
   obtain ⟨v,z,e,h1,h2⟩:=bytes_at (hi i (by omega)).2
   cases e
   exact ⟨z,h1,h2⟩)
  refine ⟨_,ls,rfl,?_,(List.range l).map V,by simp [hll],?_,fun i hil=>?_⟩
  ·have h1:=bulk_slice (H:=H) ((List.range l).map D) ((List.range (m - l)).map fun j=>D (l+j))
   have h2:=bulk_sum D (fun i=>1+(ls.getD i []).length) l (fun i hil=>by
    have:=(hls i (by omega)).1
    rw [List.getD_eq_getElem?_getD,List.getElem?_eq_getElem (by omega)]
    simp only [Option.getD_some]
    omega)
   have h3:=sum_range ls (fun z=>1+z.length) (fun i=>1+(ls.getD i []).length) l hll (fun i hi'=>by
    rw [List.getD_eq_getElem?_getD,List.getElem?_eq_getElem hi']
    rfl)
   unfold sizeP
   simp only
   omega
  ·have e:((List.range l).map V).length=l:=by simp
   refine ⟨some a,m,by rw [e],by rw [e];exact hl,hm,fun hp=>?_⟩
   rw [e] at hp
   have h0:=(hi 0 (by omega)).1
   obtain ⟨b,off,spot⟩:=a
   have hspot:spot=none:=by simpa [Addr.add] using World.cell?_spot h0
   subst hspot
   refine ⟨b,off,rfl,?_,fun i hi'=>?_⟩
   ·have:=World.block_lt_of_cell? _ _ h0
    rw [add_addr] at this
    exact this
   ·rw [e] at hi'
    rw [←add_addr,(hi i (by omega)).1]
    simp [hi']
  ·have hi2:i < l:=by omega
   rw [show ((List.range l).map V).getD i (.bool false)=V i by simp [List.getD_eq_getElem?_getD,hi2],show ls.getD i []=ls[i] by simp [List.getD_eq_getElem?_getD,hil]]
   exact (hls i hil).2
end
end Go.Proofs.YtaalbcfpacpgfaaGreat
namespace Go.Proofs.YtaalbcfpacpgfaaGreat.indexOpens
open Go.ChangeShapes Go.WideShapes Go.ChangeAt Go.RowKit Go.Par
open Go.ChangeMaps (open_string shut_string)
set_option maxRecDepth 100000 in
theorem lifted (os:Os) (started:os.Started) (H:Type) (enc:TypeId × Value→H) (F:Stop.Interp) :
  ReturnsInHanded {} Tryz.checked os 3 .any ((Rows.OpenSpec.upto Rows.indexOpensSpec).pre6 enc Tryz.prog Tryz.f3 Rows.indexOpensUptoRow.domain false) (((Rows.OpenSpec.upto Rows.indexOpensSpec).at F).post enc Tryz.prog Tryz.f3 false true false false):=by
 refine returnsInHanded_of_cond (C:=Tryz.checked) (s:=Rows.OpenSpec.upto Rows.indexOpensSpec) (k:=Rows.uptoSmall) rfl own started (by kernel_rfl) Tryz.func3
  (OpenSpec.witness (enc:=enc) (C:=Tryz.checked) (s:=Rows.OpenSpec.upto Rows.indexOpensSpec) (k:=Rows.uptoSmall) rfl false ⟨#[],#[.slice none 0 0],[]⟩ 8 (by kernel_rfl) (by kernel_rfl) (by kernel_rfl)
   (x:=([.nil],[],[])) (by kernel_rfl) rfl (by kernel_rfl)) ?_
 intro W base args ds gs before hval0 hW _ hk _
 have hval:∀ (j:Nat) t v,Tryz.f3.params[j]? = some t→args[j]? = some v→Value.okWide Tryz.prog W .any base t v:=hval0
 have hW':=hW
 obtain ⟨p,q,hA0,hV,rfl,hfz,hnd⟩:=hW
 have hA:DataW.TrodAll enc Tryz.prog W 0 (fun _=>true) true Tryz.f3.params.toList args.toList ds p:=hA0
 rw [Tryz.params3] at hA hval
 obtain ⟨v0,vs0,d0,ds0,p0,q0,hargs,rfl,rfl,h0,r0⟩:=trodAll_cons hA
 obtain ⟨rfl,rfl,rfl⟩:=trodAll_nil r0
 obtain rfl:args=#[v0]:=by cases args;simp_all
 obtain ⟨rfl,rfl⟩:=trodVars_none hV
 have hbulk:=of_decide_eq_true hk
 simp only [List.append_nil,Rows.uptoBulkAll] at hbulk
 have k0:=h0
 have lt0:∀ x∈p0,x.block < W.heap.size:=by obtain ⟨m,hm⟩:=k0;exact DataW.trod_lt m _ _ _ hm
 obtain ⟨ad0,len0,cap0,rfl⟩:=okWide_slice Tryz.underlying22 (hval 0 22 v0 rfl rfl)
 obtain ⟨n0,hn0⟩:=h0
 obtain ⟨u0,z0,e0,b0,g0⟩:=rows_at hn0
 simp [Value.cells] at e0
 subst e0
 replace b0:sizeP z0≤1048576:=by simp only at b0;omega
 clear hA0 hval0
 refine (Go.Proofs.YtaalbcfpacpgfaaGreat.indexOpens_walk _ z0 b0 W g0).mono fun e W' ⟨he,bel⟩=>?_
 subst he
 exact ⟨_,rfl,_,_,_,[],_,[],hW',trodAll_mk1 (shut_bool Tryz.underlying4 _),(trodAll_cons_mk (Below.trod laidOut (by kernel_rfl) (of_decide_eq_true (by kernel_rfl)) k0 bel lt0) trodAll_mk0),rfl,bel.frame _,fun h=>by cases h⟩
theorem over:Rows.indexOpensUptoRow.holds Tryz.pinned (Rows.OpenSpec.upto Rows.indexOpensSpec) :=
 OpenClaim.holds_of_cond 3 Tryz.f3 rfl rfl rfl rfl rfl rfl rfl ⟨rfl,rfl,rfl,rfl,rfl⟩ rfl rfl rfl rfl rfl (by kernel_rfl) Tryz.func3 (by kernel_rfl)
  (of_decide_eq_true (by kernel_rfl)) (by unfold Func.isWrapper;first | (rw [if_pos (by decide +kernel)];kernel_rfl) | (rw [if_neg (by decide +kernel)];exact ⟨rfl,rfl⟩))
  (fun os started H enc _ F=>lifted os started H enc F)
theorem proved:Rows.IndexOpensUptoSaid:=over
#print axioms proved
end Go.Proofs.YtaalbcfpacpgfaaGreat.indexOpens
