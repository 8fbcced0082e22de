import Derived.WalkKit
import Derived.WalkSmall
import Derived.Lib.Hide
import Derived.Lib.UnsafeStr
import Derived.Deep.Draws
import Derived.Maps.Own
import Derived.Test.YtaalbcfpacpgfaaGreatProg
import Derived.Maps.OwnOps
import Derived.Maps.OwnSet
import Derived.KernelRfl
import Derived.Maps.AppendAt
import Derived.RegionTactic
import Derived.OwnWalk
import Derived.WalkLawsBesides
import Derived.WalkSpells
import Derived.Outline
import Derived.BigQuiet
import Derived.IntWalk
import Derived.Lib.Strings
import Derived.Deep.QuietTactic
import Derived.Deep.DeepCutAuto
import Derived.StillTailTactics
import Derived.Lib.SliceRun
import Derived.Deep.RegionHeld
set_option linter.all false
set_option maxHeartbeats 16000000
set_option maxRecDepth 100000
open Bool renaming false->o_,true->v_
open Go renaming Addr->Kb,Calls->H_,MemPlace->LL,Program->K6,TypeId->Ki,Value->m_,World->j_,YieldsIf->M8,bytesBefore->Kk,maxLen->JT,wpAnyH->Md,wpList->MS
open Go.Addr renaming add->Mo
open Go.Builtin renaming append_->L0
open Go.DataW renaming insert->MT
open Go.Ending renaming returned->k_
open Go.IntKind renaming i64->d_
open Go.Lib renaming byteCells->l_
open Go.Lit renaming string->Mx
open Go.Obj renaming cells->f_
open Go.Program renaming elem->K7
open Go.Proofs.Tryz renaming prog->h_
open Go.Region renaming free->MK,noSelect->LZ,ready->K9
open Go.RowKit renaming Below->n_
open Go.Value renaming bool->u_,int->e_,ownBlock->KT,pointer->i_,slice->a_,string->g_,tuple->J_
open Go.World renaming cell?->E_,frozen?->JW,setCell->Kd
open Option renaming none->b_,some->c_
open Or renaming inl->Ke
def Kz:=@Array.getElem?_eq_getElem
def Ly:=@Array.getElem?_eq_none
def Li:=@Array.getElem?_eq_some_iff
def Mm:=@Array.getElem?_push
def MF:=@Array.getElem?_toList
def LF:=@Array.getElem_modify_self
def Ko:=@Array.length_toList
def KF:=@Array.replicate_succ
def KG:=@Array.replicate_zero
def LY:=@Array.size_push
def Ll:=@Array.toList_inj
def Ku:=@Bool.and_eq_true
def LA:=@Bool.and_false
def KC:=@Bool.false_and
def Lk:=@Bool.true_and
def L7:=@ByteArray.ext
def KY:=@Go.ByteArray.toList_eq
def t_:=@Go.Lib.byteCells_length
def Kn:=@Go.Lib.cell?_alloc_some
def Mj:=@Go.Oper.uponIn_round
def MD:=@Go.Proofs.Tryz.results100
def LP:=@Go.Proofs.Tryz.results55
def My:=@Go.Proofs.Tryz.sizeOf5
def Mw:=@Go.Proofs.Tryz.underlying112
def J9:=@Go.Proofs.Tryz.underlying24
def Lq:=@Go.Proofs.Tryz.underlying3
def Lz:=@Go.Proofs.Tryz.underlying89
def KH:=@Go.Proofs.Tryz.underlying9
def LS:=@Go.Result.andThen_ok
def z_:=@Go.RowKit.Below.heap_alloc
def JZ:=@Go.RowKit.Below.heap_setCell
def JG:=@Go.RowKit.Below.refl
def MM:=@Go.Sem.run_bind
def MC:=@Go.Sem.run_pure
def JY:=@Go.World.block_lt_of_cell?
def D_:=@Go.World.cell?_of_block
def JA:=@Go.World.cell?_setCell_other
def Kf:=@Go.World.ownsRow.alloc
def LB:=@Go.World.ownsRow.cells
def Lm:=@Go.World.ownsRow.lt
def Mf:=@Go.World.ownsRow_nil
def JQ:=@Go.World.size_alloc
def C_:=@Go.bodyPost_ret
def Kg:=@Go.callsIn_wide
def r_:=@Go.heap_alloc_new
def F_:=@Go.lt_of_block
def Mc:=@Go.ownsRow_setCell_other
def Mh:=@Go.results_none
def MJ:=@Go.run_append_own_at
def K3:=@Go.wpAnyH_all
def J6:=@Go.wpAnyH_done
def Jy:=@Go.wpAnyH_take
def KE:=@Go.wp_region_held
def Lh:=@Int.toNat_natCast
def LH:=@List.all_eq_true
def JU:=@List.append_assoc
def La:=@List.append_nil
def KK:=@List.append_toArray
def Ka:=@List.cons_append
def LM:=@List.drop_drop
def KA:=@List.drop_eq_getElem_cons
def Ma:=@List.drop_length
def L6:=@List.drop_of_length_le
def KU:=@List.drop_zero
def JH:=@List.eq_nil_of_length_eq_zero
def M_:=@List.filter_cons
def Me:=@List.flatMap_cons
def LU:=@List.foldl_cons
def s_:=@List.getD_eq_getElem?_getD
def Kx:=@List.getElem?_append
def w_:=@List.getElem?_eq_getElem
def LG:=@List.getElem?_eq_some_iff
def LR:=@List.getElem?_map
def Mb:=@List.getElem?_take
def JB:=@List.getElem_mem
def MI:=@List.getElem_ofFn
def J4:=@List.getElem_of_mem
def p_:=@List.length_append
def Jz:=@List.length_cons
def Kr:=@List.length_drop
def KX:=@List.length_filter_le
def KL:=@List.length_map
def JP:=@List.length_nil
def Kt:=@List.length_singleton
def JN:=@List.length_take
def Lb:=@List.map_append
def Ks:=@List.map_cons
def Mv:=@List.map_map
def Lf:=@List.map_nil
def L9:=@List.map_toArray
def KI:=@List.mem_append
def Mg:=@List.mem_append_left
def Le:=@List.mem_append_right
def JL:=@List.mem_cons
def Lj:=@List.mem_cons_of_mem
def Lt:=@List.mem_cons_self
def Lr:=@List.mem_map
def Kw:=@List.mem_map_of_mem
def Mq:=@List.mem_range
def KV:=@List.mem_singleton
def Kl:=@List.nil_append
def Ky:=@List.not_mem_nil
def MB:=@List.pairwise_cons
def MH:=@List.pairwise_map
def KP:=@List.push_toArray
def JE:=@List.setIfInBounds_toArray
def J3:=@List.set_cons_succ
def J0:=@List.set_cons_zero
def KB:=@List.size_toArray
def Mn:=@List.takeWhile_cons
def KJ:=@List.take_append_drop
def JO:=@List.take_length
def Kq:=@List.take_of_length_le
def y_:=@List.take_succ_eq_append_getElem
def ME:=@Nat.add_assoc
def Lu:=@Nat.add_sub_cancel_left
def L5:=@Nat.add_zero
def Kh:=@Nat.le_refl
def Kj:=@Nat.le_trans
def Kc:=@Nat.lt_of_lt_of_le
def MG:=@Nat.lt_of_sub_eq_succ
def K2:=@Nat.min_eq_left
def LO:=@Nat.pow_le_pow_right
def Lp:=@Nat.zero_add
def Km:=@Nat.zero_le
def Lx:=@Option.some.injEq
def Mk:=@Prod.mk.injEq
def LD:=@UInt8.toNat_inj
def K8:=@UInt8.toNat_ofNat'
def KN:=@beq_eq_false_iff_ne
def J7:=@congrArg
def JJ:=@decide_eq_false
def Mr:=@decide_eq_false_iff_not
def JR:=@decide_eq_true
def LQ:=@decide_eq_true_eq
def I_:=@if_neg
def G_:=@if_pos
def Ml:=@if_true
def Ls:=@of_decide_eq_false
def Kv:=@of_decide_eq_true
def Lw:=@or_false
instance:Coe j_ Nat:=⟨λw=>w.heap.size⟩
variable{p:Prop}{n:Nat}
theorem Z_(h:p):Go.RowKit.Hid p:=Go.Lib.hid h
theorem O_(h:p:=by omega):p:=h
theorem K_(h:p:=by kernel_rfl):p:=h
theorem N_{A:Sort _}(a:A):∃x,x=a:=⟨a,rfl⟩
theorem L_:n<=n:=Kh n
theorem B_{w:j_}:n_ n w w:=JG _ _
theorem Go.RowKit.Hid.o(h:Go.RowKit.Hid p):p:=h.out
namespace Go.Par
open Go Go.RowKit
section
variable{P:K6}{md:Region.Mode}{ops:Array Oper}{Q:Exit->Act->j_->Prop}{S:j_->Prop}{oi:Oper}{fuel:Nat}{listed:Array Bool}{a:Act}{w:j_}
variable{G:Prop}
theorem bI(i s:Nat)(v:m_)(hS:S w)(k:G)(hi:ops[i]?=c_ oi:=by rfl)(j:oi.dst=c_ s:=by rfl)(hs:LZ ops=true:=by kernel_rfl)(D:MK md ops listed i=true:=by kernel_rfl)(hr:(K9 md ops listed).contains i=true:=by kernel_rfl)(I:∀c a w,Q (.panic c) (a.put oi.dst v) w->Q (.panic c) a w:=by exact λ_ _ _ h=>h)
  (J:M8 P ops S oi v a:=by first|exact Or.inr ⟨by rfl,rfl⟩|exact Ke ⟨by rfl,λw' hS=>by go_simp⟩) (h:G->Md P md ops Q S fuel (listed.setIfInBounds i v_) {tmps:=a.tmps.setIfInBounds s v,defers:=a.defers} w:=by intro k;(try simp only[JE,J0,J3]);exact k):Md P md ops Q S (fuel+1) listed a w:=
  Jy hi hs D hr I J hS (by rw[j];exact h k)
theorem Jv(i s:Nat)(v:m_)(hS:S w)(k:G)(hi:ops[i]?=c_ oi:=by rfl)(j:oi.dst=c_ s:=by rfl)(hs:LZ ops=true:=by kernel_rfl)(D:MK md ops listed i=true:=by kernel_rfl)(hr:(K9 md ops listed).contains i=true:=by kernel_rfl)(I:∀c a w,Q (.panic c) (a.put oi.dst v) w->Q (.panic c) a w:=by exact λ_ _ _ h=>h)
  (J:M8 P ops S oi v a:=by exact Ke ⟨by rfl,λw' hS=>by obtain⟨K,s1⟩:=hS;go_simp⟩) (h:G->Md P md ops Q S fuel (listed.setIfInBounds i v_) {tmps:=a.tmps.setIfInBounds s v,defers:=a.defers} w:=by intro k;(try simp only[JE,J0,J3]);exact k):Md P md ops Q S (fuel+1) listed a w:=bI i s v hS k hi j hs D hr I J h
theorem ve(i s:Nat)(v:m_)(hS:S w)(k:G)(hi:ops[i]?=c_ oi:=by rfl)(j:oi.dst=c_ s:=by rfl)(hs:LZ ops=true:=by kernel_rfl)(D:MK md ops listed i=true:=by kernel_rfl)(hr:(K9 md ops listed).contains i=true:=by kernel_rfl)(I:∀c a w,Q (.panic c) (a.put oi.dst v) w->Q (.panic c) a w:=by exact λ_ _ _ h=>h)
  (J:M8 P ops S oi v a:=by exact Ke ⟨by rfl,λw' hS=>by obtain⟨K,s1,s2⟩:=hS;go_simp⟩) (h:G->Md P md ops Q S fuel (listed.setIfInBounds i v_) {tmps:=a.tmps.setIfInBounds s v,defers:=a.defers} w:=by intro k;(try simp only[JE,J0,J3]);exact k):Md P md ops Q S (fuel+1) listed a w:=bI i s v hS k hi j hs D hr I J h
theorem fx(i s:Nat)(v:m_)(hS:S w)(k:G)(hi:ops[i]?=c_ oi:=by rfl)(j:oi.dst=c_ s:=by rfl)(hs:LZ ops=true:=by kernel_rfl)(D:MK md ops listed i=true:=by kernel_rfl)(hr:(K9 md ops listed).contains i=true:=by kernel_rfl)(I:∀c a w,Q (.panic c) (a.put oi.dst v) w->Q (.panic c) a w:=by exact λ_ _ _ h=>h)
  (J:M8 P ops S oi v a:=by exact Ke ⟨by rfl,λw' hS=>by obtain⟨K,s1,s2,M⟩:=hS;go_simp⟩) (h:G->Md P md ops Q S fuel (listed.setIfInBounds i v_) {tmps:=a.tmps.setIfInBounds s v,defers:=a.defers} w:=by intro k;(try simp only[JE,J0,J3]);exact k):Md P md ops Q S (fuel+1) listed a w:=bI i s v hS k hi j hs D hr I J h
theorem fy(i s:Nat)(v:m_)(hS:S w)(k:G)(hi:ops[i]?=c_ oi:=by rfl)(j:oi.dst=c_ s:=by rfl)(hs:LZ ops=true:=by kernel_rfl)(D:MK md ops listed i=true:=by kernel_rfl)(hr:(K9 md ops listed).contains i=true:=by kernel_rfl)(I:∀c a w,Q (.panic c) (a.put oi.dst v) w->Q (.panic c) a w:=by exact λ_ _ _ h=>h)
  (J:M8 P ops S oi v a:=by exact Ke ⟨by rfl,λw' hS=>by obtain⟨K,s1,s2,M,O⟩:=hS;go_simp⟩) (h:G->Md P md ops Q S fuel (listed.setIfInBounds i v_) {tmps:=a.tmps.setIfInBounds s v,defers:=a.defers} w:=by intro k;(try simp only[JE,J0,J3]);exact k):Md P md ops Q S (fuel+1) listed a w:=bI i s v hS k hi j hs D hr I J h
theorem gx(i s:Nat)(v:m_)(hS:S w)(k:G)(hi:ops[i]?=c_ oi:=by rfl)(j:oi.dst=c_ s:=by rfl)(hs:LZ ops=true:=by kernel_rfl)(D:MK md ops listed i=true:=by kernel_rfl)(hr:(K9 md ops listed).contains i=true:=by kernel_rfl)(I:∀c a w,Q (.panic c) (a.put oi.dst v) w->Q (.panic c) a w:=by exact λ_ _ _ h=>h)
  (J:M8 P ops S oi v a:=by exact Ke ⟨by rfl,λw' hS=>by obtain⟨K,s1,s2,M,O,U⟩:=hS;go_simp⟩) (h:G->Md P md ops Q S fuel (listed.setIfInBounds i v_) {tmps:=a.tmps.setIfInBounds s v,defers:=a.defers} w:=by intro k;(try simp only[JE,J0,J3]);exact k):Md P md ops Q S (fuel+1) listed a w:=bI i s v hS k hi j hs D hr I J h
theorem ag(i:Nat)(h:∀K:Act->j_->Prop,(∀a w,S w/\Md P md ops Q S fuel (listed.setIfInBounds i v_) a w->K a w)->oi.wp P a w K Q)(hr:K9 md ops listed=[i]:=by kernel_rfl)(D:ops[i]?=c_ oi:=by rfl)(hw:Region.wanted oi (yielded ops a.tmps)=true:=by rfl):Md P md ops Q S (fuel+1) listed a w:=
  K3 hr (by simp) λj hj=>by
    rw[KV]at hj;subst hj;unfold wpOp;simp only[D,hw,Ml];exact .inl (h _ λ_ _ h=>h)
theorem kk{S:j_->Prop}{X K:Act->j_->Prop}(j:∀a w,S w/\X a w->K a w)(hS:S w)(k:G)(h:G->X a w:=by intro k;(try simp only[JE,J0,J3]);exact k):K a w:=j a w ⟨hS,h k⟩
end
end Go.Par
namespace Go.Vfs
open Go.RowKit Go.Lib
structure Kept(F:Nat->Prop)(w w':j_):Prop where
 os:w'.os=w.os
 tape:w'.tape=w.tape
 output:w'.output=w.output
 size:w.heap.size<=w'.heap.size
 block:∀k,k<w.heap.size->¬F k->w'.heap[k]?=w.heap[k]?
def aH(w:j_)(F F':Nat->Prop):Prop:=∀k,F' k->F k\/w.heap.size<=k
variable{F F':Nat->Prop}{a b c w w':j_}{p:Kb}{e:Ki}{size n:Nat}{v:m_}{xs:List m_}{α β:Type}{s:List UInt8}
theorem Kept.refl(F:Nat->Prop)(w:j_):Kept F w w:=⟨rfl,rfl,rfl,Kh _,λ_ _ _=>rfl⟩
theorem Kept.trans(h:Kept F a b)(k:Kept F' b c)(j:aH a F F'):Kept F a c:=
 ⟨k.os.trans h.os,k.tape.trans h.tape,k.output.trans h.output,Kj h.size k.size,λi hi hn=>
  (k.block i (Kc hi h.size) (λD=>by rcases j i D with h1|h1;exact hn h1;omega)).trans (h.block i hi hn)⟩
theorem Kept.trans'(h:Kept F a b)(k:Kept F b c):Kept F a c:=h.trans k (λ_ h=>.inl h)
theorem Kept.mono(h:Kept F a b)(j:∀k,k<a.heap.size->F k->F' k):Kept F' a b:=
 ⟨h.os,h.tape,h.output,h.size,λi hi hn=>h.block i hi (λD=>hn (j i hi D))⟩
theorem Kept.drew(h:Kept F a b):Kept F a b.drew:=⟨h.os,h.tape,h.output,h.size,h.block⟩
theorem Kept.drewN(h:Kept F a b)(n:Nat):Kept F a (b.drewN n):=⟨h.os,h.tape,h.output,h.size,h.block⟩
theorem Kept.alloc(h:Kept F a b)(o:Obj):Kept F a (b.alloc o):=
 h.trans' ⟨rfl,rfl,rfl,by simp,λk j _=>z_ _ _ _ j⟩
theorem Kept.setCell(h:Kept F a b)(hp:F p.block\/a.heap.size<=p.block)(u:m_):Kept F a (b.setCell p u):=
 ⟨h.os,h.tape,h.output,by have:=h.size;simpa[Kd]using this,λi hi hn=>by
  rw[JZ _ _ _ _ (λe=>by subst e;rcases hp with h1|h1;exact hn h1;omega)];exact h.block i hi hn⟩
theorem Kept.grown{row:Option Nat}(h:Kept F a b)(j:b.grownBy c row)(hr:∀k,row=c_ k->F k\/a.heap.size<=k):Kept F a c:=
 ⟨j.os.trans h.os,j.tape.trans h.tape,j.output.trans h.output,Kj h.size j.size,λi hi hn=>
  (j.block i (Kc hi h.size) (λe=>by rcases hr i e.symm with h1|h1;exact hn h1;omega)).trans (h.block i hi hn)⟩
theorem Kept.ar(h:n_ a a b):Kept F a b:=⟨h.os,h.tape,h.output,h.size,λi hi _=>h.block i hi⟩
theorem Kept.below(h:Kept F a b){B:Nat}(I:B<=a)(j:∀k,F k->B<=k):n_ B a b:=
 ⟨h.os,h.tape,h.output,h.size,λi hi=>h.block i O_ (λD=>by have:=j i D;omega)⟩
theorem Kept.cell(h:Kept F a b)(hp:p.block<a)(hn:¬F p.block):b.cell? p=a.cell? p:=D_ (w:=a) (h.block p.block hp hn)
theorem aO{base:Nat}(h:w.ownsRow base e size v n xs)(j:∀g,v.ownBlock=c_ g->w'.heap[g]?=w.heap[g]?):w'.ownsRow base e size v n xs:=by
 refine⟨h.1,?_⟩;rcases h.2 with hn|⟨g,cap,cur,rfl,D,I,r⟩
 ·exact .inl hn
 exact .inr ⟨g,cap,cur,rfl,D,by rw[j g rfl];exact I,r⟩
theorem sC{base:Nat}(h:w.ownsRow base e size v n xs):w.ownsRow 0 e size v n xs:=by
 refine⟨h.1,?_⟩;rcases h.2 with hn|⟨g,cap,cur,rfl,j,r⟩
 ·exact .inl hn
 exact .inr ⟨g,cap,cur,rfl,Km _,r⟩
theorem dF{H:Type}{P:K6}{k:Ki}{R:m_->Option (DataW H×List LL)}{b:Nat}{D:DataW H}(h:w.ownsMap P k R b n D)(j:w'.heap[b]?=w.heap[b]?):w'.ownsMap P k R b n D:=by
 obtain⟨es,clock,h1,h2⟩:=h;exact⟨es,clock,j.trans h1,h2⟩
structure af where
 name:List UInt8
 data:List UInt8
 safe:Nat
deriving Inhabited
def dm{α:Type}(key:α->List UInt8)(x:α):List α->List α
 |[]=>[x]
 |y::r=>if Kk (key x) (key y)then x::y::r else y::dm key x r
def an{α:Type}(key:α->List UInt8)(s:List UInt8)(l:List α):List α:=l.filter λy=>!(key y==s)
def aq{α:Type}(key:α->List UInt8)(x:α)(l:List α):List α:=dm key x (an key (key x) l)
def aj{α:Type}(key:α->List UInt8)(s:List UInt8)(l:List α):Option α:=l.find? λy=>key y==s
theorem rz{key:α->List UInt8}{x y:α}:∀{l:List α},y∈dm key x l↔y=x\/y∈l
 |[]=>by simp[dm]
 |z::l=>by
  unfold dm;split
  ·simp
  simp only[JL,rz (l:=l)];constructor
  ·rintro(h|h|h)
   ·exact .inr (.inl h)
   ·exact .inl h
   exact .inr (.inr h)
  rintro(h|h|h)
  ·exact .inr (.inl h)
  ·exact .inl h
  exact .inr (.inr h)
theorem cq{key:α->List UInt8}{y:α}{l:List α}:y∈an key s l↔y∈l/\key y≠s:=by simp[an]
theorem cP{key:α->List UInt8}{x y:α}{l:List α}:y∈aq key x l↔y=x\/(y∈l/\key y≠key x):=by
 unfold aq;rw[rz,cq]
theorem wD{key:α->List UInt8}{key':β->List UInt8}(f:α->β)(j:∀x,key' (f x)=key x)(x:α):∀l:List α,(dm key x l).map f=dm key' (f x) (l.map f)
 |[]=>rfl
 |y::l=>by
  unfold dm;rw[Ks];simp only[j];split
  ·rfl
  rw[Ks,wD f j x l]
theorem lz{key:α->List UInt8}{key':β->List UInt8}(f:α->β)(j:∀x,key' (f x)=key x)(s:List UInt8)(l:List α):(an key s l).map f=an key' s (l.map f):=by
 unfold an;rw[List.filter_map]
 congr 1
 apply List.filter_congr;intro x _;simp[j]
theorem fX{key:α->List UInt8}{key':β->List UInt8}(f:α->β)(j:∀x,key' (f x)=key x)(x:α)(l:List α):(aq key x l).map f=aq key' (f x) (l.map f):=by
 unfold aq;rw[wD f j,lz f j,j]
theorem lA{key:α->List UInt8}{key':β->List UInt8}(f:α->β)(j:∀x,key' (f x)=key x)(s:List UInt8):∀l:List α,aj key' s (l.map f)=(aj key s l).map f:=by
 intro l;unfold aj;rw[List.find?_map]
 congr 1
 congr 1
 funext x
 simp[j]
theorem before_irrefl:∀a:List UInt8,Kk a a=o_
 |[]=>rfl
 |a::r=>by simp[Kk,before_irrefl r]
theorem before_trans:∀{a b c:List UInt8},Kk a b=v_->Kk b c=v_->Kk a c=v_
 |[],_,c,h1,h2=>by
  cases c with
  |nil=>cases‹List UInt8›<;>simp_all [Kk]
  |cons _ _=>rfl
 |a::r,[],_,h1,_=>by simp[Kk]at h1
 |a::r,b::s,[],_,h2=>by simp[Kk]at h2
 |a::r,b::s,c::t,h1,h2=>by
  simp only[Kk,Bool.or_eq_true,Ku,LQ,beq_iff_eq]at h1 h2⊢;rcases h1 with h1|⟨rfl,h1⟩
  ·rcases h2 with h2|⟨rfl,h2⟩
   ·left;exact UInt8.lt_trans h1 h2
   left;exact h1
  rcases h2 with h2|⟨rfl,h2⟩
  ·left;exact h2
  right;exact⟨rfl,before_trans h1 h2⟩
theorem before_total:∀{a b:List UInt8},Kk a b=o_->a≠b->Kk b a=v_
 |[],[],_,h=>absurd rfl h
 |[],_::_,h,_=>by simp[Kk]at h
 |_::_,[],_,_=>rfl
 |a::r,b::s,h1,h2=>by
  simp only[Kk,Bool.or_eq_false_iff,Bool.and_eq_false_iff,Mr,KN,ne_eq]at h1;simp only[Kk,Bool.or_eq_true,Ku,LQ,beq_iff_eq];by_cases e:a=b
  ·subst e
   right;refine⟨rfl,before_total ?_ (λh=>h2 (by rw[h]))⟩;rcases h1.2 with h|h
   ·exact absurd rfl h
   exact h
  left;have j:=h1.1;rw[UInt8.lt_iff_toNat_lt]at j⊢;have D:a.toNat≠b.toNat:=λh=>e (UInt8.toNat.inj h)
  omega
def cQ{α:Type}(key:α->List UInt8)(l:List α):Prop:=l.Pairwise λx y=>Kk (key x) (key y)=v_
theorem cQ.an{key:α->List UInt8}{l:List α}(h:cQ key l)(s:List UInt8):cQ key (an key s l):=List.Pairwise.filter _ h
theorem cQ.dm{key:α->List UInt8}{x:α}:∀{l:List α},cQ key l->(∀y∈l,key y≠key x)->cQ key (dm key x l)
 |[],_,_=>by simp[cQ,Vfs.dm]
 |y::l,h,hn=>by
  have I:=MB.1 h;unfold Vfs.dm;split
  ·rename_i D
   refine MB.2 ⟨λz j=>?_,h⟩;rcases JL.1 j with rfl|j
   ·exact D
   exact before_trans D (I.1 z j)
  rename_i D
  refine MB.2 ⟨λz j=>?_,cQ.dm I.2 (λz j=>hn z (by simp[j]))⟩;rcases rz.1 j with rfl|j
  ·exact before_total (by simpa using D) (λe=>hn y (by simp) e.symm)
  exact I.1 z j
theorem cQ.aq{key:α->List UInt8}{x:α}{l:List α}(h:cQ key l):cQ key (aq key x l):=
 cQ.dm (h.an _) (λy j=>(cq.1 j).2)
theorem cQ.uniq{key:α->List UInt8}{l:List α}(h:cQ key l){x y:α}(hx:x∈l)(J:y∈l)(e:key x=key y):x=y:=by
 induction l with
 |nil=>cases hx
 |cons z l K=>
  have I:=MB.1 h;rcases JL.1 hx with D|D
  ·rcases JL.1 J with j|j
   ·rw[D,j]
   have:=I.1 y j;rw[<-D,e,before_irrefl]at this;cases this
  rcases JL.1 J with j|j
  ·have:=I.1 x D;rw[<-j,e,before_irrefl]at this;cases this
  exact K I.2 D j
theorem aV{key:α->List UInt8}{l:List α}{x:α}(h:aj key s l=c_ x):x∈l/\key x=s:=
 ⟨List.mem_of_find?_eq_some h,by simpa using List.find?_some h⟩
theorem qW{key:α->List UInt8}{l:List α}(h:aj key s l=b_):∀x∈l,key x≠s:=by
 intro x hx;simpa using List.find?_eq_none.1 h x hx
theorem cQ.aj{key:α->List UInt8}{l:List α}(h:cQ key l){x:α}(hx:x∈l):aj key (key x) l=c_ x:=by
 cases j:Vfs.aj key (key x) l with
 |none=>exact absurd rfl (qW j x hx)
 |some y=>
  obtain⟨h1,h2⟩:=aV j;rw[h.uniq h1 hx h2]
end Go.Vfs
namespace Go.Proofs.YtaalbcfpacpgfaaGreat
open Go.RowKit Go.Lib Go.Vfs
def bJ(v:m_):Option (DataW Nat×List LL):=match v with
 | i_ b_=>c_ (.nil,[])
 | i_ (c_ ⟨b,0,b_⟩)=>c_ (.lit (.int d_ b),[])
 |_=>b_
variable{v:m_}{w w':j_}{p mb:Nat}{pow:Int}{F:Nat->Prop}
theorem pc{ps:List LL}(h:bJ v=c_ (.nil,ps)):v=i_ none:=by
 unfold bJ at h;split at h
 ·rfl
 ·cases h
 cases h
theorem rF{b:Nat}{ps:List LL}(h:bJ v=c_ (.lit (.int d_ b),ps)):v=i_ (c_ ⟨b,0,b_⟩):=by
 unfold bJ at h;split at h
 ·cases h
 ·simp only[Lx,Mk,DataW.lit.injEq,Lit.int.injEq]at h
  have:(_:Int)=_:=h.1.2;have h2:=Int.ofNat.inj this;rw[h2]
 cases h
structure ay where
 f:af
 q:Nat
 v:m_
def bT(x:ay):List UInt8:=x.f.name
def aP(x:ay):List Nat:=x.q::x.v.ownBlock.toList
def jI(xs:List ay):DataW Nat:=.map (xs.map λx=>(.string x.f.name,.lit (.int d_ x.q)))
theorem ri(x:ay):∀xs:List ay,MT (H:=Nat) (.string x.f.name,.lit (.int d_ x.q)) (xs.map λx=>(.string x.f.name,.lit (.int d_ x.q)))=(dm bT x xs).map λx=>(.string x.f.name,.lit (.int d_ x.q))
 |[]=>rfl
 |y::xs=>by
  cases h:Kk (bT x) (bT y)with
  |true=>
   have j:(Mx x.f.name).before (Mx y.f.name)=true:=h;simp[MT,dm,h,j]
  |false=>
   have j:(Mx x.f.name).before (Mx y.f.name)=false:=h;simp[MT,dm,h,j,ri x xs]
theorem ug(x:ay)(xs:List ay):(jI xs).put (.string x.f.name) (.lit (.int d_ x.q))=jI (aq bT x xs):=by
 unfold jI DataW.put aq an;simp only[];rw[List.filter_map,ri]
 congr 3
theorem zO(s:List UInt8)(xs:List ay):(jI xs).del (.string s)=jI (an bT s xs):=by
 unfold jI DataW.del an;simp only[];rw[List.filter_map]
 congr 2
theorem C8(s:List UInt8)(xs:List ay):(jI xs).atKey (.string s) .nil=match aj bT s xs with|some x=>.lit (.int d_ x.q)|none=>.nil:=by
 unfold jI DataW.atKey aj;simp only[];rw[List.find?_map];have:((λp:Lit×DataW Nat=>p.1.sameKey (.string s))∘λx:ay=>(Mx x.f.name,DataW.lit (.int d_ x.q)))=λy=>bT y==s:=by
  funext y;rfl
 rw[this];cases List.find? (λy=>bT y==s) xs<;>rfl
structure du(w:j_)(x:ay):Prop where
 head:w.heap[x.q]?=c_ (f_ #[x.v,e_ d_ x.f.safe] 105 (0,0))
 row:w.ownsRow 0 5 1 x.v x.f.data.length (l_ x.f.data)
 safe:x.f.safe<=x.f.data.length
structure cC(w:j_)(p:Nat)(pow:Int)(xs:List ay)(mb:Nat):Prop where
 head:w.heap[p]?=c_ (f_ #[.map (c_ mb),.int d_ pow] 91 (0,0))
 map:w.ownsMap h_ 9 bJ mb xs.length (jI xs)
 files:∀x∈xs,du w x
 rising:cQ bT xs
 pm:p≠mb
 pf:∀x∈xs,p∉aP x/\mb∉aP x/\x.v.ownBlock≠c_ x.q
 apart:∀x∈xs,∀y∈xs,bT x≠bT y->∀k∈aP x,k∉aP y
def ek(p mb:Nat)(xs:List ay)(k:Nat):Prop:=k=p\/k=mb\/∃x∈xs,k∈aP x
structure St where
 aa:Int
 files:List af
def Jw(w:j_)(p:Nat)(st:St)(F:Nat->Prop):Prop:=
 ∃xs mb,st.files=xs.map (·.f)/\cC w p st.aa xs mb/\F=ek p mb xs
theorem du.block{x:ay}(h:du w x)(j:∀k∈aP x,w'.heap[k]?=w.heap[k]?):du w' x:=
 ⟨(j _ (by simp[aP])).trans h.head,aO h.row (λg D=>j g (by simp[aP,D])),h.safe⟩
theorem cC.block{xs:List ay}(h:cC w p pow xs mb)(j:∀k,ek p mb xs k->w'.heap[k]?=w.heap[k]?):cC w' p pow xs mb:=
 ⟨(j _ (.inl rfl)).trans h.head,dF h.map (j _ (.inr (.inl rfl))),λx hx=>(h.files x hx).block (λk D=>j k (.inr (.inr ⟨x,hx,D⟩))),h.rising,h.pm,h.pf,h.apart⟩
theorem Jw.ae{st:St}(h:Jw w p st F)(j:∀k,F k->w'.heap[k]?=w.heap[k]?):Jw w' p st F:=by
 obtain⟨xs,mb,h1,h2,rfl⟩:=h;exact⟨xs,mb,h1,h2.block j,rfl⟩
theorem du.lt{x:ay}(h:du w x):∀k∈aP x,k<w:=by
 intro k j;unfold aP at j;rcases JL.1 j with rfl|j
 ·exact F_ h.head
 exact(Lm h.row k (by simpa using j)).2
theorem cC.lt{xs:List ay}(h:cC w p pow xs mb):∀k,ek p mb xs k->k<w.heap.size:=by
 rintro k (rfl|rfl|⟨x,hx,j⟩)
 ·exact F_ h.head
 ·exact h.map.lt
 exact(h.files x hx).lt k j
theorem Jw.lt{st:St}(h:Jw w p st F):∀k,F k->k<w.heap.size:=by
 obtain⟨xs,mb,h1,h2,rfl⟩:=h;exact h2.lt
end Go.Proofs.YtaalbcfpacpgfaaGreat
namespace Go.Par
open Go.RowKit Go.Lib
def bw(w:j_)(B:Nat)(v:m_)(xs:List m_):Prop:=
 ∃A c,v=a_ A xs.length c/\xs.length<=c/\c<=JT/\(0<xs.length->∃b off,A=c_ ⟨b,off,b_⟩/\b<B/\∀i,i<xs.length->w.cell? ⟨b,off+i,b_⟩=xs[i]?)
def ints(zs:List Int):List m_:=zs.map (e_ d_)
theorem ew(zs:List Int):(ints zs).length=zs.length:=by simp[ints]
theorem wu(a b:List Int):ints (a++b)=ints a++ints b:=by simp[ints]
section
variable{w w':j_}{B B':Nat}{v:m_}{xs:List m_}
theorem bw.ae(h:bw w B v xs)(D:∀b o,b<B->w'.cell? ⟨b,o,b_⟩=w.cell? ⟨b,o,b_⟩):bw w' B v xs:=by
 obtain⟨A,c,h1,h2,I,J⟩:=h;exact⟨A,c,h1,h2,I,λhn=>by
  obtain⟨b,off,e,j,hc⟩:=J hn;exact⟨b,off,e,j,λi hi=>(D b _ j).trans (hc i hi)⟩⟩
theorem bw.below(h:bw w B v xs)(j:n_ B w w'):bw w' B v xs:=h.ae λb o hp=>j.cell (p:=⟨b,o,b_⟩) hp
theorem bw.drewN(h:bw w B v xs)(n:Nat):bw (w.drewN n) B v xs:=h
theorem bw.more(h:bw w B v xs)(I:B<=B'):bw w B' v xs:=by
 obtain⟨A,c,h1,h2,j,D⟩:=h;exact⟨A,c,h1,h2,j,λhn=>by
  obtain⟨b,off,e,J,hc⟩:=D hn;exact⟨b,off,e,by omega,hc⟩⟩
theorem bw.nil(w:j_)(B:Nat):bw w B (a_ b_ 0 0) []:=⟨b_,0,rfl,by simp,by simp[JT],λh=>by simp at h⟩
end
def At(w:j_)(B:Nat)(A:Option Kb)(n:Nat)(f:Nat->m_):Prop:=
 ∀i,i<n->∃b off,A=c_ ⟨b,off,b_⟩/\b<B/\w.cell? ⟨b,off+i,b_⟩=c_ (f i)
variable{w w':j_}{B n k:Nat}{A:Option Kb}{f:Nat->m_}{v:m_}{zs:List Int}{l:List UInt8}{α:Type}{e:Ki}{xs:List m_}
theorem At.drewN(h:At w B A n f)(k:Nat):At (w.drewN k) B A n f:=h
theorem At.ae(h:At w B A n f)(D:∀b o,b<B->w'.cell? ⟨b,o,b_⟩=w.cell? ⟨b,o,b_⟩):At w' B A n f:=λi hi=>by
 obtain⟨b,off,e,j,hc⟩:=h i hi;exact⟨b,off,e,j,(D b _ j).trans hc⟩
theorem At.below(h:At w B A n f)(j:n_ B w w'):At w' B A n f:=h.ae λb o hp=>j.cell (p:=⟨b,o,b_⟩) hp
theorem bw.open_ints(h:bw w B v (ints zs)):
  ∃A c,v=a_ A zs.length c/\zs.length<=c/\c<=9223372036854775807/\At w B A zs.length (λi=>e_ d_ (zs.getD i 0)):=by
 obtain⟨A,c,rfl,h2,D,j⟩:=h;rw[ew]at h2 j;refine⟨A,c,by rw[ew],h2,by simpa[JT]using D,λi hi=>?_⟩;obtain⟨b,off,e,I,hc⟩:=j O_;refine⟨b,off,e,I,(hc i hi).trans ?_⟩;simp[ints,hi,s_]
theorem bw.bq(h:bw w B v (l_ l)):
  ∃A c,v=a_ A l.length c/\l.length<=c/\c<=9223372036854775807/\At w B A l.length (λi=>e_ .u8 (l.getD i 0).toNat):=by
 obtain⟨A,c,rfl,h2,D,j⟩:=h;rw[t_]at h2 j;refine⟨A,c,by rw[t_],h2,by simpa[JT]using D,λi hi=>?_⟩;obtain⟨b,off,e,I,hc⟩:=j O_;refine⟨b,off,e,I,(hc i hi).trans ?_⟩;simp[l_,hi,s_]
theorem At.int(h:At w B A n (λi=>e_ d_ (zs.getD i 0)))(j:k<n):
  ∃b off x,A=c_ ⟨b,off,b_⟩/\b<B/\w.cell? ⟨b,off+k,b_⟩=c_ (e_ d_ x)/\Hid (zs.getD k 0=x):=by
 obtain⟨b,off,e,D,hc⟩:=h k j;exact⟨b,off,_,e,D,hc,Z_ rfl⟩
theorem At.byte(h:At w B A n (λi=>e_ .u8 (l.getD i 0).toNat))(j:k<n):
  ∃b off x,A=c_ ⟨b,off,b_⟩/\b<B/\w.cell? ⟨b,off+k,b_⟩=c_ (e_ .u8 (x:Nat))/\x<256/\Hid ((l.getD k 0).toNat=x):=by
 obtain⟨b,off,e,D,hc⟩:=h k j;exact⟨b,off,_,e,D,hc,(l.getD k 0).toNat_lt,Z_ rfl⟩
def jl{α:Type}(k:Nat)(xs ys:List α):Prop:=xs.take k=ys.take k
theorem jl.zero(xs j:List α):jl 0 xs j:=rfl
theorem jl.step{xs j:List α}(h:jl k xs j)(h1:k<xs.length)(h2:k<j.length)(d:α)(he:xs.getD k d=j.getD k d):jl (k+1) xs j:=by
 unfold jl at*;simp[s_,h1,h2]at he;rw[y_ h1,y_ h2,h,he]
theorem jl.whole{xs j:List α}(h:jl xs.length xs j)(D:xs.length=j.length):xs=j:=by
 unfold jl at h;rw[Kq L_,Kq O_]at h;exact h
structure pP(P:K6)(t e:Ki)(z:m_):Prop where
 CK:P.underlying t=c_ (.slice e)
 info:∃i bytes,P.info? e=c_ i/\i.zero=c_ z/\i.size=1/\i.bytes=bytes/\bytes<=64
 one:z.cells.size=1
theorem mT{P:K6}{t:Ki}{z:m_}{b:Nat}(j:P.underlying t=c_ (.slice e))(h:(P.info? e).map (λi=>(i.zero,i.size,i.bytes))=c_ (c_ z,1,b))(D:b<=64)(h1:z.cells.size=1):pP P t e z:=by
 obtain⟨i,hi,h0,h2,I⟩:=info_parts h;exact⟨j,⟨i,b,hi,h0,h2,I,D⟩,h1⟩
def Own(w:j_)(base:Nat)(e:Ki)(v:m_)(xs:List m_):Prop:=w.ownsRow base e 1 v xs.length xs
theorem Own.nil(w:j_)(base:Nat)(e:Ki):Own w base e (a_ b_ 0 0) []:=Mf w base e 1
theorem Own.alloc{base:Nat}(h:Own w base e v xs)(o:Obj):Own (w.alloc o) base e v xs:=Kf h o
theorem Own.drewN{base:Nat}(h:Own w base e v xs)(n:Nat):Own (w.drewN n) base e v xs:=h
theorem Own.form{base:Nat}(h:Own w base e v xs):∃A c,v=a_ A xs.length c:=by
 rcases h.2 with⟨rfl,h0⟩|⟨g,cap,cur,rfl,_⟩
 ·exact⟨b_,0,by rw[h0]⟩
 exact⟨_,cap,rfl⟩
theorem Own.lt{base:Nat}(h:Own w base e v xs)(k:Nat)(j:v.ownBlock=c_ k):base<=k/\k<w.heap.size:=Lm h k j
theorem Own.dH{base:Nat}(h:Own w base e v xs):bw w w v xs:=by
 have j:=h.lt;rcases h.2 with⟨rfl,h0⟩|⟨g,cap,cur,rfl,M,O,D,I,K,J⟩
 ·have:xs=[]:=JH h0
  subst this;exact bw.nil w _
 refine⟨_,cap,rfl,D,I,λ_=>⟨g,0,rfl,(j g rfl).2,λi hi=>?_⟩⟩;have hc:=LB (g:=g) h rfl i (xs[i]'hi) (w_ hi);have e:((⟨g,0,b_⟩:Kb).add i)=⟨g,0+i,b_⟩:=by unfold Mo;split<;>simp_all
 rw[<-e,hc,w_ hi]
theorem Own.below{base:Nat}(h:Own w base e v xs)(j:n_ w w w'):Own w' base e v xs:=
 World.ownsRow.kept (row:=b_) h ⟨j.os,j.tape,j.output,j.size,λk D _=>j.block k D⟩ (by cases v.ownBlock<;>simp)
theorem Own.base{base base':Nat}(h:Own w base e v xs)(D:base'<=base):Own w base' e v xs:=by
 refine⟨h.1,?_⟩;rcases h.2 with h0|⟨g,cap,cur,j,I,r⟩
 ·exact .inl h0
 exact .inr ⟨g,cap,cur,j,by omega,r⟩
theorem Own.new(w:j_)(base:Nat)(e:Ki)(cs:Array m_)(xs:List m_)(hx:cs=xs.toArray)(j:base<=w)(hm:xs.length<=JT):
  Own (w.alloc (f_ cs e)) base e (a_ (c_ ⟨w,0,b_⟩) xs.length xs.length) xs:=by
 subst hx;refine⟨by simp,.inr ⟨w,xs.length,xs.toArray,rfl,j,r_ w _,Kh _,hm,by simp,?_⟩⟩;rw[Nat.mul_one];exact Kq L_
theorem bw.new(w:j_)(e:Ki)(cs:Array m_)(xs:List m_)(hx:cs=xs.toArray)(hm:xs.length<=JT):
  bw (w.alloc (f_ cs e)) (w+1) (a_ (c_ ⟨w,0,b_⟩) xs.length xs.length) xs:=by
 subst hx;refine⟨_,xs.length,rfl,Kh _,hm,λ_=>⟨w,0,rfl,by omega,λi hi=>?_⟩⟩;rw[World.cell?_alloc_new];simp
theorem cS(b off i:Nat):((⟨b,off,b_⟩:Kb).add i)=⟨b,off+i,b_⟩:=by unfold Mo;split<;>simp_all
section
variable{P:K6}(w:j_)
variable{a:Act}{Q:Exit->Act->j_->Prop}
theorem pE(base:Nat)(t ty e:Ki)(z:m_)(E:pP P t e z)(v:m_)(xs:List m_)(j:Own w base e v xs)(c:Nat):
  (L0 #[t,t] ty #[v,a_ b_ 0 c]).run P w=.ok v w:=by
 obtain⟨i,_,hi,_,_,_,_⟩:=E.info;rcases j.2 with⟨rfl,h0⟩|⟨g,cap,cur,rfl,_,_,D,_⟩
 ·simp[L0,run_underlying E.CK,sizeOf,typeInfo,hi,Builtin.lenOf,Builtin.firstCells]
 simp[L0,run_underlying E.CK,sizeOf,typeInfo,hi,Builtin.lenOf,Builtin.firstCells,D,storeCells]
theorem AJ(base:Nat)(t ty e:Ki)(z:m_)(E:pP P t e z)(v:m_)(xs:List m_)(D:Own w base e v xs)
  (B:Nat) (u:m_) (news:List m_) (hs:bw w B u news) (h1:∀x∈news,x.oneCell'=v_)
  (M:xs.length+news.length<=2147483648) (J:base<=w):
  ∃v' w',(L0 #[t,t] ty #[v,u]).run P w=.ok v' w'/\Own w' base e v' (xs++news)/\w.grownBy w' v.ownBlock/\
   (v'.ownBlock=v.ownBlock\/v'.ownBlock=c_ w.heap.size):=by
 obtain⟨i,bytes,hi,Y,O,U,V⟩:=E.info;obtain⟨A,c,rfl,hc,hm,Z⟩:=hs;have key:∀K:Kb,A=c_ K->(∀j x,news[j]?=c_ x->w.cell? (K.add j)=c_ x)->∃v' w',(L0 #[t,t] ty #[v,a_ A news.length c]).run P w=.ok v' w'/\Own w' base e v' (xs++news)/\w.grownBy w' v.ownBlock/\
   (v'.ownBlock=v.ownBlock\/v'.ownBlock=c_ w.heap.size):=by
  rintro K rfl I;have X:(xs.length+news.length)*bytes<=140737488355328:=
   Kj (Nat.mul_le_mul M V) (by decide)
  obtain⟨v',w',hr,h2,h3,_,h5⟩:=MJ (P:=P) w base t ty e i z 1 bytes E.CK hi Y O U E.one (by decide) v xs.length xs D K news.length c news (by simp) I h1 (by simp only[JT];omega) X J;refine⟨v',w',hr,?_,h3,h5⟩;unfold Own;rw[p_];exact h2
 rcases Nat.eq_zero_or_pos news.length with h0|hp
 ·have hn:news=[]:=JH h0
  subst hn;rcases A with _|K
  ·exact⟨v,w,pE w base t ty e z E v xs D c,by simpa using D,World.grownBy.refl w _,.inl rfl⟩
  exact key K rfl (λj x hj=>by simp at hj)
 obtain⟨b,off,rfl,_,hcell⟩:=Z hp;refine key _ rfl (λj x hj=>?_);rw[cS,hcell j (LG.1 hj).1];exact hj
theorem gj{o:Oper}{K:Act->j_->Prop}(s x:Operand)(t:Ki)
  (O:o.op=.call {callee:=.builtin .append,args:=#[s,x],argTypes:=#[t,t]})
  (base:Nat) (e:Ki) (z:m_) (E:pP P t e z) (v:m_) (xs:List m_) (hs:a.eval s=v) (D:Own w base e v xs)
  (B:Nat) (u:m_) (news:List m_) (hx:a.eval x=u) (J:bw w B u news) (h1:∀x∈news,x.oneCell'=v_)
  (M:xs.length+news.length<=2147483648) (j:base<=w)
  (h:∀v' w',Own w' base e v' (xs++news)->w.grownBy w' v.ownBlock->(v'.ownBlock=v.ownBlock\/v'.ownBlock=c_ w.heap.size)->K (a.put o.dst v') w'):o.wp P a w K Q:=by
 obtain⟨v',w',I,h2,U,V⟩:=AJ (P:=P) w base t o.type e z E v xs D B u news J h1 M j;unfold Oper.wp execOp;simp only[O,resolve,invoke,builtin,MM,MC,LS,L9,Ks,Lf,hs,hx,I];exact h v' w' h2 U V
theorem aE{ops:Array Oper}{rest:List Oper}{o:Oper}(I:o.guard=b_)(s x:Operand)(t:Ki)
  (M:o.op=.call {callee:=.builtin .append,args:=#[s,x],argTypes:=#[t,t]})
  (base:Nat) (e:Ki) (z:m_) (E:pP P t e z) (v:m_) (xs:List m_) (hs:a.eval s=v) (D:Own w base e v xs)
  (B:Nat) (u:m_) (news:List m_) (hx:a.eval x=u) (J:bw w B u news) (h1:∀x∈news,x.oneCell'=v_)
  (K:xs.length+news.length<=2147483648) (j:base<=w)
  (h:∀v' w',Own w' base e v' (xs++news)->w.grownBy w' v.ownBlock->(v'.ownBlock=v.ownBlock\/v'.ownBlock=c_ w.heap.size)->MS P ops Q rest (a.put o.dst v') w'):MS P ops Q (o::rest) a w:=
 wpList_plain I λ_ O=>gj w s x t M base e z E v xs hs D B u news hx J h1 K j λv' w' h2 U V=>O _ _ (h v' w' h2 U V)
end
variable{w w':j_}{e:Ki}{v:m_}{xs:List m_}{S F:Nat->Prop}
theorem wI(zs:List Int):∀x∈ints zs,x.oneCell'=true:=by
 intro x hx;obtain⟨z,_,rfl⟩:=Lr.1 hx;rfl
theorem aZ(l:List UInt8):∀x∈l_ l,x.oneCell'=true:=by
 intro x hx;obtain⟨z,_,rfl⟩:=Lr.1 hx;rfl
theorem dW{base:Nat}{D:j_}(I:n_ base D w)(j:Own w base e v xs)(J:w.grownBy w' v.ownBlock)(K:base<=w):n_ base D w':=
 I.grown J K (λk M=>(j.lt k M).1)
open Go.RowKit Go.Lib Go.Vfs
def a8(S:Nat->Prop)(w:j_)(v:m_)(xs:List m_):Prop:=
 ∃A c,v=a_ A xs.length c/\xs.length<=c/\c<=JT/\(0<xs.length->∃b off,A=c_ ⟨b,off,b_⟩/\S b/\∀i,i<xs.length->w.cell? ⟨b,off+i,b_⟩=xs[i]?)
def Out(w:j_)(F:Nat->Prop)(b:Nat):Prop:=b<w.heap.size/\¬F b
theorem a8.dH(h:a8 S w v xs){B:Nat}(hS:∀b,S b->b<B):bw w B v xs:=by
 obtain⟨A,c,h1,h2,j,D⟩:=h;exact⟨A,c,h1,h2,j,λhn=>by obtain⟨b,off,e,I,hc⟩:=D hn;exact⟨b,off,e,hS b I,hc⟩⟩
theorem a8.ae{S':Nat->Prop}(h:a8 S w v xs)(j:∀b,S b->S' b/\w'.heap[b]?=w.heap[b]?):a8 S' w' v xs:=by
 obtain⟨A,c,h1,h2,I,J⟩:=h;exact⟨A,c,h1,h2,I,λhn=>by
  obtain⟨b,off,e,D,hc⟩:=J hn;exact⟨b,off,e,(j b D).1,λi hi=>(D_ (a:=⟨b,off+i,b_⟩) (j b D).2).trans (hc i hi)⟩⟩
theorem a8.o(h:a8 (Out w F) w v xs):bw w w v xs:=h.dH λ_ j=>j.1
theorem a8.kept{F':Nat->Prop}(h:a8 (Out w F) w v xs)(D:Kept F w w')(I:aH w F F'):a8 (Out w' F') w' v xs:=
 h.ae λb j=>⟨⟨Kc j.1 D.size,λJ=>by rcases I b J with h1|h1;exact j.2 h1;exact absurd j.1 O_⟩,D.block b j.1 j.2⟩
theorem a8.below(h:a8 (Out w F) w v xs)(j:n_ w w w'):a8 (Out w' F) w' v xs:=
 h.ae λb hx=>⟨⟨Kc hx.1 j.size,hx.2⟩,j.block b hx.1⟩
theorem Own.jf{base:Nat}(h:Own w base e v xs)(K:∀k,F k->k<base):a8 (Out w F) w v xs:=by
 have j:=h.lt;rcases h.2 with⟨rfl,h0⟩|⟨g,cap,cur,rfl,U,V,D,I,M,J⟩
 ·have:xs=[]:=JH h0
  subst this;exact⟨b_,0,rfl,by simp,by simp[JT],λh=>by simp at h⟩
 refine⟨_,cap,rfl,D,I,λ_=>⟨g,0,rfl,⟨(j g rfl).2,λO=>by have:=K g O;omega⟩,λi hi=>?_⟩⟩;have hc:=LB (g:=g) h rfl i (xs[i]'hi) (w_ hi);rw[<-cS,hc,w_ hi]
end Go.Par
namespace Go.Proofs.YtaalbcfpacpgfaaGreat
open Go.RowKit Go.Lib Go.Vfs Go.Par
def okB(c:UInt8):Bool:=decide ((97<=c.toNat/\c.toNat<=122)\/(48<=c.toNat/\c.toNat<=57)\/c.toNat=46\/c.toNat=45)
def bS(l:List UInt8):Bool:=decide (1<=l.length/\l.length<=32)&&l.all okB
variable{w w' w3 W:j_}{p mb b n c:Nat}{pow m:Int}{u v x:m_}{t:Ki}{S S' F F':Nat->Prop}{ls:List (List UInt8)}{L a s:List UInt8}{α:Type}{A:Option Kb}
theorem jG{a b:Bool}(h:a=b):k_ (u_ a)=k_ (u_ b):=by rw[h]
theorem AR(s:ByteArray)(l:List UInt8)(h:s.data.toList=l)(k:Nat)(j:k<s.size):s[k]=l.getD k 0:=by
 have D:k<s.data.size:=j;rw[<-h];simp only[s_,MF,Kz D];rfl
theorem vp(s:ByteArray)(k:Nat)(j:k<s.size):(s.data.toList.take (k+1)).all okB=((s.data.toList.take k).all okB&&okB s[k]):=by
 have D:k<s.data.toList.length:=by simpa using j
 rw[y_ D,List.all_append];simp;rfl
theorem jS(s:ByteArray)(w:j_)(hs:s.size<=9223372036854775807):
  H_ h_ 85 #[g_ s] w λe w'=>e=k_ (u_ (bS s.data.toList))/\w'=w:=by
 have hlen:s.data.toList.length=s.size:=(Lib.size_eq s).symm;by_cases h0:s.size=0
 ·have X:s=⟨#[]⟩:=by
   have:s.data=#[]:=Ll.1 (by apply JH;rw[hlen,h0]);cases s;cases this;rfl
  subst X;clear hlen h0 hs;go_enter Tryz.func85,Tryz.ntmps85;go_wp2;go_ret;exact⟨rfl,rfl⟩
 have Y:¬s.toList=[]:=λe=>by
  rw[KY]at e;rw[e]at hlen;simp at hlen;omega
 have ad:s.toList.isEmpty=false:=by simpa using Y
 by_cases ak:32<(s.size:Int)
 ·have hr:bS s.data.toList=false:=by
   unfold bS;rw[hlen];simp;intro _ h;omega
  rw[hr];clear hr hlen;go_enter Tryz.func85,Tryz.ntmps85;go_wp2;go_ret;exact⟨rfl,rfl⟩
 have HR:Hid (bS s.data.toList=s.data.toList.all okB):=Z_ (by
  unfold bS;rw[hlen];have:decide (1<=s.size/\s.size<=32)=true:=by simp;omega
  rw[this];rfl)
 have HL:=Z_ hlen;clear hlen;obtain⟨r,hr⟩:=N_ (bS s.data.toList);rw[<-hr];have V:=Z_ hr;clear hr;go_enter Tryz.func85,Tryz.ntmps85;go_wp2
 go_loop [16] (λi=>∃k:Nat,k<=s.size/\i=e_ d_ k/\Hid ((s.data.toList.take k).all okB=v_)) (λi=>s.size - (intOf i).toNat)
 case atStart=>exact⟨0,by omega,rfl,Z_ (by simp)⟩
 obtain⟨k,hk,rfl,Z⟩:=hrel;by_cases M:k<s.size
 ·have D:=vp s k M
  rw[Z.o,Lk]at D;have av:=s[k].toNat_lt;cases j:okB s[k]with
  |true=>
   rw[j]at D;have J:=Z_ D;clear D Z;have I:=Kv j;clear j;rcases I with⟨h1,h2⟩|⟨h1,h2⟩|h1|h1
   ·have O:(97:Int)<=(s[k].toNat:Int):=by omega
    have g2:(s[k].toNat:Int)<=122:=by omega
    have U:(48:Int)<=(s[k].toNat:Int):=by omega
    have g4:¬(s[k].toNat:Int)<=57:=by omega
    go_wp2
    go_round
    case rel=>exact⟨k+1,by omega,by go_num,J⟩
    simp[intOf];omega
   ·have O:¬(97:Int)<=(s[k].toNat:Int):=by omega
    have U:(48:Int)<=(s[k].toNat:Int):=by omega
    have g4:(s[k].toNat:Int)<=57:=by omega
    go_wp2
    go_round
    case rel=>exact⟨k+1,by omega,by go_num,J⟩
    simp[intOf];omega
   ·have O:¬(97:Int)<=(s[k].toNat:Int):=by omega
    have U:¬(48:Int)<=(s[k].toNat:Int):=by omega
    have g5:((s[k].toNat:Int) !=46)=false:=by simp;omega
    clear h1;go_wp2
    go_round
    case rel=>exact⟨k+1,by omega,by go_num,J⟩
    simp[intOf];omega
   have O:¬(97:Int)<=(s[k].toNat:Int):=by omega
   have U:¬(48:Int)<=(s[k].toNat:Int):=by omega
   have g5:((s[k].toNat:Int) !=46)=true:=by simp;omega
   have g6:((s[k].toNat:Int) !=45)=false:=by simp;omega
   clear h1;go_wp2
   go_round
   case rel=>exact⟨k+1,by omega,by go_num,J⟩
   simp[intOf];omega
  |false=>
   have K:Hid (r=o_):=Z_ (by
    rw[V.o,HR.o,List.all_eq_false];refine⟨s[k],?_,by rw[j];simp⟩;rw[AR s _ rfl k M,s_,w_ (by rw[HL.o];exact M)];exact JB _)
   have I:=Ls j;clear j D;have g5:((s[k].toNat:Int) !=46)=true:=by simp;omega
   have g6:((s[k].toNat:Int) !=45)=true:=by simp;omega
   rcases(show s[k].toNat<48\/(58<=s[k].toNat/\s[k].toNat<97)\/122<s[k].toNat by omega)with h|⟨h,h2⟩|h
   ·have O:¬(97:Int)<=(s[k].toNat:Int):=by omega
    have U:¬(48:Int)<=(s[k].toNat:Int):=by omega
    clear I;go_wp2;go_ret;exact⟨by first|(rw[K.o];rfl)|rw[K.o],rfl⟩
   ·have O:¬(97:Int)<=(s[k].toNat:Int):=by omega
    have U:(48:Int)<=(s[k].toNat:Int):=by omega
    have g4:¬(s[k].toNat:Int)<=57:=by omega
    clear I;go_wp2;go_ret;exact⟨by first|(rw[K.o];rfl)|rw[K.o],rfl⟩
   have O:(97:Int)<=(s[k].toNat:Int):=by omega
   have g2:¬(s[k].toNat:Int)<=122:=by omega
   have U:(48:Int)<=(s[k].toNat:Int):=by omega
   have g4:¬(s[k].toNat:Int)<=57:=by omega
   clear I;go_wp2;go_ret;exact⟨by first|(rw[K.o];rfl)|rw[K.o],rfl⟩
 have K:Hid (r=v_):=Z_ (by
  rw[V.o,HR.o];have:=Z.o;rw[Kq (by rw[HL.o];omega)]at this;exact this)
 go_wp2;go_ret;exact⟨by first|(rw[K.o];rfl)|rw[K.o],rfl⟩
theorem Aj(aa:Int)(w:j_):H_ h_ 9 #[e_ d_ aa] w λe w'=>
  e=k_ (i_ (c_ ⟨w+1,0,b_⟩))/\w'=(w.alloc (.map #[] 0)).alloc (f_ #[.map (c_ w.heap.size),e_ d_ aa] 91):=by
 have j:=@run_makeMap h_;go_enter Tryz.func9,Tryz.ntmps9;go_wp2;go_ret;exact⟨rfl,rfl⟩
theorem DJ(aa:Int)(w:j_):H_ h_ 9 #[.int d_ aa] w λe w'=>
  ∃p F,e=k_ (i_ (c_ ⟨p,0,b_⟩))/\Jw w' p ⟨aa,[]⟩ F/\(∀k,F k->w.heap.size<=k/\k<w'.heap.size)/\n_ w w w':=by
 refine(Aj aa w).mono ?_;rintro e w' ⟨rfl,rfl⟩;refine⟨_,ek (w+1) w [],rfl,⟨[],w.heap.size,rfl,⟨?_,?_,by simp,List.Pairwise.nil,by simp,by simp,by simp⟩,rfl⟩,λk j=>?_,((JG _ w).alloc L_ _).alloc (by simp) _⟩
 ·have:=r_ (w.alloc (.map #[] 0)) (f_ #[.map (c_ w.heap.size),.int d_ aa] 91)
  rwa[JQ]at this
 ·exact(World.ownsMap_made w h_ 9 bJ).alloc _
 unfold ek at j;simp at j⊢;omega
theorem AY(w:j_):(zeroValue 101).run h_ w=.ok (i_ b_) w:=by kernel_rfl
theorem rY:Maps.Keyed h_ 9:=Maps.string_keyed KH
theorem iw(s:ByteArray)(hs:s.size<=9223372036854775807):keyOf h_ 9 (.string s)=c_ (.string s.data.toList):=WideMaps.keyOf_string_mk KH (by simpa[JT]using hs)
def pg(xs:List ay)(s:List UInt8):m_:=match aj bT s xs with|some x=>i_ (c_ ⟨x.q,0,b_⟩)|none=>i_ b_
theorem cC.look{xs:List ay}(h:cC w p pow xs mb)(s:ByteArray)(hs:s.size<=9223372036854775807)(n:Nat):
  (Instr.lookup 89 (.map (c_ mb)) (.string s) o_).run h_ (w.drewN n)=.ok (pg xs s.data.toList) (w.drewN n):=by
 have hm:(w.drewN n).ownsMap h_ 9 bJ mb xs.length (jI xs):=h.map;obtain⟨v,ps,j,D⟩:=hm.lookup rY Lz (AY _) (zd:=.nil) (zp:=[]) rfl (iw s hs);rw[j];rw[C8]at D;unfold pg;cases I:aj bT s.data.toList xs with
 |none=>rw[I]at D;rw[pc D]
 |some x=>rw[I]at D;rw[rF D]
def ql(w:j_)(xs:List ay)(s:List UInt8)(e:Ending)(w':j_):Prop:=
 w=w'/\(match bS s,aj bT s xs with
  |false,_=>e=k_ (J_ #[i_ b_,e_ d_ 10])
  |true,b_=>e=k_ (J_ #[i_ b_,e_ d_ 11])
  |true,c_ x=>e=k_ (J_ #[i_ (c_ ⟨x.q,0,b_⟩),e_ d_ 0]))
theorem kG(s:ByteArray)(hs:s.size<=9223372036854775807)(w:j_)(p:Nat)(pow:Int)(xs:List ay)(mb:Nat)(h:cC w p pow xs mb):
  H_ h_ 49 #[i_ (c_ ⟨p,0,b_⟩),g_ s] w (ql w xs s.data.toList):=by
 have M:w.cell? ⟨p,0,b_⟩=c_ (.map (c_ mb)):=by simp[E_,h.head]
 have j:=h.look s hs 0;have D:w.drewN 0=w:=rfl;rw[D]at j;clear D;have hn:=jS s w hs;unfold ql;cases I:bS s.data.toList with
 |false=>
  rw[I]at hn;clear j;go_enter Tryz.func49,Tryz.ntmps49;go_wp2_with (go_at_call 85;refine hn.mono ?_;rintro e J ⟨rfl,rfl⟩)
  go_ret2
  exact⟨rfl,rfl⟩
 |true=>
  rw[I]at hn;unfold pg at j;cases K:aj bT s.data.toList xs with
  |none=>
   rw[K]at j;go_enter Tryz.func49,Tryz.ntmps49;go_wp2_with (go_at_call 85;refine hn.mono ?_;rintro e J ⟨rfl,rfl⟩)
   go_ret2
   exact⟨rfl,rfl⟩
  |some x=>
   rw[K]at j;go_enter Tryz.func49,Tryz.ntmps49;go_wp2_with (go_at_call 85;refine hn.mono ?_;rintro e J ⟨rfl,rfl⟩)
   go_ret2
   exact⟨rfl,rfl⟩
def dec(pow:Int):Int:=if 0<pow then pow - 1 else pow
theorem dP(h:w.heap[b]?=c_ (f_ #[u,v] t (0,0))):(w.setCell ⟨b,1,b_⟩ x).heap[b]?=c_ (f_ #[u,x] t (0,0)):=by
 have j:=F_ h;have D:w.heap[b]=f_ #[u,v] t (0,0):=by simpa[Kz j]using h
 show(w.heap.modify b _)[b]?=_;rw[Kz (by simpa using j),LF,D];rfl
theorem eS(h:w.heap[b]?=c_ (f_ #[u,v] t (0,0))):(w.setCell ⟨b,0,b_⟩ x).heap[b]?=c_ (f_ #[x,v] t (0,0)):=by
 have j:=F_ h;have D:w.heap[b]=f_ #[u,v] t (0,0):=by simpa[Kz j]using h
 show(w.heap.modify b _)[b]?=_;rw[Kz (by simpa using j),LF,D];rfl
theorem cC.aa{xs:List ay}(h:cC w p pow xs mb)(j:Int):cC (w.setCell ⟨p,1,b_⟩ (e_ d_ j)) p j xs mb:=by
 have I:∀k,k≠p->(w.setCell ⟨p,1,b_⟩ (e_ d_ j)).heap[k]?=w.heap[k]?:=λk J=>JZ _ _ _ _ J
 exact⟨dP h.head,dF h.map (I _ (Ne.symm h.pm)),λx hx=>(h.files x hx).block (λk D=>I k (λe=>(h.pf x hx).1 (e▸D))),h.rising,h.pm,h.pf,h.apart⟩
theorem gC(w:j_)(p:Nat)(xs:List ay)(mb:Nat)(h:cC w p 0 xs mb)(fv:m_):
  H_ h_ 80 #[i_ (c_ ⟨p,0,b_⟩),fv] w λe w'=>e=k_ (e_ d_ 13)/\w=w':=by
 have j:w.cell? ⟨p,1,b_⟩=c_ (e_ d_ 0):=by simp[E_,h.head]
 clear h;go_enter Tryz.func80,Tryz.ntmps80;go_wp2;go_ret;exact⟨rfl,rfl⟩
theorem sk(w:j_)(p:Nat)(pow:Int)(xs:List ay)(mb:Nat)(h:cC w p pow xs mb)(I:pow≠0)(O:pow<=9223372036854775807)(lb:Array m_)(Q:j_->Prop)
  (j:∀K,cC K p (dec pow) xs mb->Kept (·=p) w K->K.heap.size=w.heap.size->H_ h_ 86 lb K λe w'=>e=k_ (J_ #[])/\Q w'):
  H_ h_ 80 #[i_ (c_ ⟨p,0,b_⟩),.func (.func 86) #[] lb] w λe w'=>e=k_ (e_ d_ 0)/\Q w':=by
 have U:w.cell? ⟨p,1,b_⟩=c_ (e_ d_ pow):=by simp[E_,h.head]
 have V:w.frozen? ⟨p,1,b_⟩=false:=by simp[JW,h.head]
 have h0:(pow==0)=false:=by simpa using I
 by_cases D:0<pow
 ·have J:=Z_ (j (w.setCell ⟨p,1,b_⟩ (e_ d_ (pow - 1))) (by have:=h.aa (pow - 1);unfold dec;rw[G_ D];exact this) ((Kept.refl (·=p) w).setCell (p:=⟨p,1,b_⟩) (.inl rfl) _) (by simp[Kd]))
  clear j h I;go_enter Tryz.func80,Tryz.ntmps80;go_wp2_with fail;refine J.o.mono ?_;rintro e X ⟨rfl,M⟩;go_wp2;go_ret;exact⟨rfl,M⟩
 have J:=Z_ (j w (by unfold dec;rw[I_ D];exact h) (Kept.refl _ _) rfl);clear j h I;go_enter Tryz.func80,Tryz.ntmps80;go_wp2_with fail;refine J.o.mono ?_;rintro e X ⟨rfl,M⟩;go_wp2;go_ret;exact⟨rfl,M⟩
theorem sq(w:j_)(p:Nat)(pow:Int)(xs:List ay)(mb:Nat)(h:cC w p pow xs mb)(I:pow≠0)(O:pow<=9223372036854775807)(lb:Array m_)(Q:j_->Prop)
  (j:∀K,cC K p (dec pow) xs mb->Kept (·=p) w K->K.heap.size=w.heap.size->H_ h_ 155 lb K λe w'=>e=k_ (J_ #[])/\Q w'):
  H_ h_ 80 #[i_ (c_ ⟨p,0,b_⟩),.func (.func 155) #[] lb] w λe w'=>e=k_ (e_ d_ 0)/\Q w':=by
 have U:w.cell? ⟨p,1,b_⟩=c_ (e_ d_ pow):=by simp[E_,h.head]
 have V:w.frozen? ⟨p,1,b_⟩=false:=by simp[JW,h.head]
 have h0:(pow==0)=false:=by simpa using I
 by_cases D:0<pow
 ·have J:=Z_ (j (w.setCell ⟨p,1,b_⟩ (e_ d_ (pow - 1))) (by have:=h.aa (pow - 1);unfold dec;rw[G_ D];exact this) ((Kept.refl (·=p) w).setCell (p:=⟨p,1,b_⟩) (.inl rfl) _) (by simp[Kd]))
  clear j h I;go_enter Tryz.func80,Tryz.ntmps80;go_wp2_with fail;refine J.o.mono ?_;rintro e X ⟨rfl,M⟩;go_wp2;go_ret;exact⟨rfl,M⟩
 have J:=Z_ (j w (by unfold dec;rw[I_ D];exact h) (Kept.refl _ _) rfl);clear j h I;go_enter Tryz.func80,Tryz.ntmps80;go_wp2_with fail;refine J.o.mono ?_;rintro e X ⟨rfl,M⟩;go_wp2;go_ret;exact⟨rfl,M⟩
theorem pR(w:j_)(p:Nat)(pow:Int)(xs:List ay)(mb:Nat)(h:cC w p pow xs mb)(I:pow≠0)(O:pow<=9223372036854775807)(lb:Array m_)(Q:j_->Prop)
  (j:∀K,cC K p (dec pow) xs mb->Kept (·=p) w K->K.heap.size=w.heap.size->H_ h_ 84 lb K λe w'=>e=k_ (J_ #[])/\Q w'):
  H_ h_ 80 #[i_ (c_ ⟨p,0,b_⟩),.func (.func 84) #[] lb] w λe w'=>e=k_ (e_ d_ 0)/\Q w':=by
 have U:w.cell? ⟨p,1,b_⟩=c_ (e_ d_ pow):=by simp[E_,h.head]
 have V:w.frozen? ⟨p,1,b_⟩=false:=by simp[JW,h.head]
 have h0:(pow==0)=false:=by simpa using I
 by_cases D:0<pow
 ·have J:=Z_ (j (w.setCell ⟨p,1,b_⟩ (e_ d_ (pow - 1))) (by have:=h.aa (pow - 1);unfold dec;rw[G_ D];exact this) ((Kept.refl (·=p) w).setCell (p:=⟨p,1,b_⟩) (.inl rfl) _) (by simp[Kd]))
  clear j h I;go_enter Tryz.func80,Tryz.ntmps80;go_wp2_with fail;refine J.o.mono ?_;rintro e X ⟨rfl,M⟩;go_wp2;go_ret;exact⟨rfl,M⟩
 have J:=Z_ (j w (by unfold dec;rw[I_ D];exact h) (Kept.refl _ _) rfl);clear j h I;go_enter Tryz.func80,Tryz.ntmps80;go_wp2_with fail;refine J.o.mono ?_;rintro e X ⟨rfl,M⟩;go_wp2;go_ret;exact⟨rfl,M⟩
theorem so(w:j_)(p:Nat)(pow:Int)(xs:List ay)(mb:Nat)(h:cC w p pow xs mb)(I:pow≠0)(O:pow<=9223372036854775807)(lb:Array m_)(Q:j_->Prop)
  (j:∀K,cC K p (dec pow) xs mb->Kept (·=p) w K->K.heap.size=w.heap.size->H_ h_ 81 lb K λe w'=>e=k_ (J_ #[])/\Q w'):
  H_ h_ 80 #[i_ (c_ ⟨p,0,b_⟩),.func (.func 81) #[] lb] w λe w'=>e=k_ (e_ d_ 0)/\Q w':=by
 have U:w.cell? ⟨p,1,b_⟩=c_ (e_ d_ pow):=by simp[E_,h.head]
 have V:w.frozen? ⟨p,1,b_⟩=false:=by simp[JW,h.head]
 have h0:(pow==0)=false:=by simpa using I
 by_cases D:0<pow
 ·have J:=Z_ (j (w.setCell ⟨p,1,b_⟩ (e_ d_ (pow - 1))) (by have:=h.aa (pow - 1);unfold dec;rw[G_ D];exact this) ((Kept.refl (·=p) w).setCell (p:=⟨p,1,b_⟩) (.inl rfl) _) (by simp[Kd]))
  clear j h I;go_enter Tryz.func80,Tryz.ntmps80;go_wp2_with fail;refine J.o.mono ?_;rintro e X ⟨rfl,M⟩;go_wp2;go_ret;exact⟨rfl,M⟩
 have J:=Z_ (j w (by unfold dec;rw[I_ D];exact h) (Kept.refl _ _) rfl);clear j h I;go_enter Tryz.func80,Tryz.ntmps80;go_wp2_with fail;refine J.o.mono ?_;rintro e X ⟨rfl,M⟩;go_wp2;go_ret;exact⟨rfl,M⟩
theorem vz(w:j_)(p:Nat)(pow:Int)(xs:List ay)(mb:Nat)(h:cC w p pow xs mb)(I:pow≠0)(O:pow<=9223372036854775807)(lb:Array m_)(Q:j_->Prop)
  (j:∀K,cC K p (dec pow) xs mb->Kept (·=p) w K->K.heap.size=w.heap.size->H_ h_ 142 lb K λe w'=>e=k_ (J_ #[])/\Q w'):
  H_ h_ 80 #[i_ (c_ ⟨p,0,b_⟩),.func (.func 142) #[] lb] w λe w'=>e=k_ (e_ d_ 0)/\Q w':=by
 have U:w.cell? ⟨p,1,b_⟩=c_ (e_ d_ pow):=by simp[E_,h.head]
 have V:w.frozen? ⟨p,1,b_⟩=false:=by simp[JW,h.head]
 have h0:(pow==0)=false:=by simpa using I
 by_cases D:0<pow
 ·have J:=Z_ (j (w.setCell ⟨p,1,b_⟩ (e_ d_ (pow - 1))) (by have:=h.aa (pow - 1);unfold dec;rw[G_ D];exact this) ((Kept.refl (·=p) w).setCell (p:=⟨p,1,b_⟩) (.inl rfl) _) (by simp[Kd]))
  clear j h I;go_enter Tryz.func80,Tryz.ntmps80;go_wp2_with fail;refine J.o.mono ?_;rintro e X ⟨rfl,M⟩;go_wp2;go_ret;exact⟨rfl,M⟩
 have J:=Z_ (j w (by unfold dec;rw[I_ D];exact h) (Kept.refl _ _) rfl);clear j h I;go_enter Tryz.func80,Tryz.ntmps80;go_wp2_with fail;refine J.o.mono ?_;rintro e X ⟨rfl,M⟩;go_wp2;go_ret;exact⟨rfl,M⟩
def al(S:Nat->Prop)(w:j_)(v:m_)(ls:List (List UInt8)):Prop:=
 ∃vs:List m_,vs.length=ls.length/\a8 S w v vs/\∀i,i<ls.length->a8 S w (vs.getD i (u_ o_)) (l_ (ls.getD i []))
theorem al.ae(h:al S w v ls)(j:∀b,S b->S' b/\w'.heap[b]?=w.heap[b]?):al S' w' v ls:=by
 obtain⟨vs,h1,h2,D⟩:=h;exact⟨vs,h1,h2.ae j,λi hi=>(D i hi).ae j⟩
theorem al.kept(h:al (Out w F) w v ls)(j:Kept F w w')(D:aH w F F'):al (Out w' F') w' v ls:=by
 obtain⟨vs,h1,h2,I⟩:=h;exact⟨vs,h1,h2.kept j D,λi hi=>(I i hi).kept j D⟩
theorem al.below(h:al (Out w F) w v ls)(j:n_ w w w'):al (Out w' F) w' v ls:=by
 obtain⟨vs,h1,h2,D⟩:=h;exact⟨vs,h1,h2.below j,λi hi=>(D i hi).below j⟩
theorem fD:pP h_ 24 5 (e_ .u8 0):=mT (b:=1) J9 K_ (by decide) rfl
theorem du.own{x:ay}(h:du w x):Par.Own w 0 5 x.v (l_ x.f.data):=by
 unfold Par.Own;rw[t_];exact h.row
theorem byteCells_append(a b:List UInt8):l_ (a++b)=l_ a++l_ b:=by simp[l_]
def ay.set(x:ay)(data:List UInt8)(v:m_):ay:=⟨⟨x.f.name,data,x.f.safe⟩,x.q,v⟩
theorem fW(ls:List (List UInt8))(k:Nat)(j:k<ls.length):(ls.take (k+1)).flatten=(ls.take k).flatten++ls.getD k []:=by
 rw[y_ j,List.flatten_append,s_,w_ j];simp
theorem mW(ls:List (List UInt8))(k:Nat)(j:k<ls.length):((ls.take k).flatten).length+(ls.getD k []).length<=ls.flatten.length:=by
 have h1:=J7 List.length (fW ls k j);rw[p_]at h1;have h2:=J7 (λl:List (List UInt8)=>l.flatten.length) (KJ (k+1) ls);simp only[List.flatten_append,p_]at h2;omega
theorem CR{x:ay}{wr:j_}{D:List UInt8}{I v3:m_}(K:du wr (x.set D I))(hn:I.ownBlock≠c_ x.q)(j:Par.Own w3 0 5 v3 (l_ D++l_ L))(V:wr.grownBy w3 I.ownBlock)
  (M:v3.ownBlock=I.ownBlock\/v3.ownBlock=c_ wr.heap.size):du (w3.setCell ⟨x.q,0,b_⟩ v3) (x.set (D++L) v3)/\v3.ownBlock≠c_ x.q:=by
 have O:x.q<wr:=F_ K.head;have U:w3.heap[x.q]?=c_ (f_ #[I,e_ d_ x.f.safe] 105 (0,0)):=by
  rw[V.block x.q O (λe=>hn e.symm)];exact K.head
 have J:v3.ownBlock≠c_ x.q:=by
  rcases M with h|h
  ·rw[h];exact hn
  rw[h];simp;omega
 refine⟨⟨eS U,?_,?_⟩,J⟩
 ·unfold Par.Own at j
  rw[<-byteCells_append,t_]at j;exact Mc (a:=⟨x.q,0,b_⟩) j J _
 have:=K.safe;simp only[ay.set,p_]at this⊢;omega
theorem zz(x:ay)(w:j_)(hf:du w x)(ad:x.v.ownBlock≠c_ x.q)(v:m_)(ls:List (List UInt8))(hp:al (Out w (·∈aP x)) w v ls)(hlen:x.f.data.length+ls.flatten.length<=2147483648):
  H_ h_ 87 #[i_ (c_ ⟨x.q,0,b_⟩),v] w λe w'=>e=k_ (J_ #[])/\∃v',du w' (x.set (x.f.data++ls.flatten) v')/\v'.ownBlock≠c_ x.q/\Kept (·∈aP x) w w'/\(∀g,v'.ownBlock=c_ g->x.v.ownBlock=c_ g\/w.heap.size<=g):=by
 obtain⟨vs,ak,bk,D⟩:=hp;obtain⟨A,c,rfl,hc,hm,av⟩:=bk;have bO:c<=9223372036854775807:=by simpa[JT]using hm
 have bR:x.q<w:=F_ hf.head;have bm:=Z_ av;clear av;have HR:=Z_ D;clear D;have O:=Z_ ak;clear ak;have HF:=Z_ hf;clear hf;have bn:=Z_ ad;clear ad;go_enter Tryz.func87,Tryz.ntmps87;go_wp2
 go_loopw [8] (λi wr=>∃(k:Nat) (V:m_),k<=vs.length/\i=e_ d_ k/\Hid (du wr (x.set (x.f.data++(ls.take k).flatten) V))/\Hid (V.ownBlock≠c_ x.q)/\Kept (·∈aP x) w wr/\Hid (∀g,V.ownBlock=c_ g->x.v.ownBlock=c_ g\/w.heap.size<=g)) (λi _=>vs.length - (intOf i).toNat)
 case atStart=>exact⟨0,x.v,by omega,rfl,Z_ (by simpa[ay.set]using HF.o),bn,Kept.refl _ _,Z_ (λg h=>.inl h)⟩
 obtain⟨k,V,hk,rfl,I,X,j,Y⟩:=hrel;have bo:=j.size;by_cases J:k<vs.length
 ·obtain⟨b,off,rfl,hb,hcell⟩:=bm.o O_
  have b0:wr.cell? ⟨b,off+k,b_⟩=c_ (vs.getD k (u_ o_)):=by
   rw[j.cell (p:=⟨b,off+k,b_⟩) hb.1 hb.2,hcell k J,s_,w_ J];rfl
  have a1:=HR.o k (by rw[<-O.o];exact J);have a2:a8 (Out wr (·∈aP x)) wr (vs.getD k (u_ o_)) (l_ (ls.getD k [])):=a1.kept j (λ_ h=>.inl h);have ba:=a2.o;clear a1 a2 hcell;generalize vs.getD k (u_ o_)=u at*;have b1:wr.cell? ⟨x.q,0,b_⟩=c_ V:=by have:=I.o.head;simp only[ay.set]at this;simp[E_,this]
  have bb:=I.o.own;have b2:=mW ls k (by rw[<-O.o];exact J);have bd:=Z_ (fW ls k (by rw[<-O.o];exact J));generalize ls.getD k []=L at*;go_wp2_with (at_builtin;refine aE _ rfl _ _ _ rfl 0 5 _ fD _ _ rfl bb _ _ _ rfl ba (aZ _) ?c1 ?c2 ?_)
  case c1=>rw[t_,t_];simp only[ay.set,p_];omega
  case c2=>first|omega|simp
  intro v3 w3 K U M;have bf:w3.heap[x.q]?=c_ (f_ #[V,e_ d_ x.f.safe] 105 (0,0)):=by
   rw[U.block x.q O_ (λe=>X.o e.symm)];exact I.o.head
  have b3:w3.cell? ⟨x.q,0,b_⟩=c_ V:=by simp[E_,bf]
  have b5:w3.frozen? ⟨x.q,0,b_⟩=false:=by simp[JW,bf]
  obtain⟨Z,bg⟩:=CR I.o X.o K U M;rw[JU,<-bd.o]at Z;have bp:Kept (·∈aP x) w (w3.setCell ⟨x.q,0,b_⟩ v3):=(j.grown U (λg e=>by
   rcases Y.o g e with h|h
   ·left;simp[aP,h]
   exact .inr h)).setCell (p:=⟨x.q,0,b_⟩) (.inl (by simp[aP])) _
  have bt:Hid (∀g,v3.ownBlock=c_ g->x.v.ownBlock=c_ g\/w.heap.size<=g):=Z_ (λg e=>by
   rcases M with h|h
   ·exact Y.o g (by rw[<-h];exact e)
   rw[h]at e;cases e;right;exact bo)
  have bj:=Z_ Z;clear Z;have bx:=Z_ bg;clear bg;clear K U M bd;have bB:∃A3 n3 c3,v3=a_ A3 n3 c3:=by
   have:=bj.o.own.form;simp only[ay.set]at this;obtain⟨A3,c3,h⟩:=this;exact⟨A3,_,c3,h⟩
  obtain⟨A3,n3,c3,rfl⟩:=bB;go_wp2;go_roundw
  case rel=>exact⟨k+1,_,by omega,by go_num,bj,bx,bp,bt⟩
  simp[intOf];omega
 have bN:k=vs.length:=by omega
 have hF:=I.o;rw[bN,O.o,JO]at hF;go_wp2
 go_end0
 exact⟨rfl,V,hF,X.o,j,Y.o⟩
theorem fC{b:List UInt8}(h:Kk a b=v_):Kk b a=false:=by
 cases j:Kk b a with
 |false=>rfl
 |true=>have:=before_trans h j;rw[before_irrefl]at this;cases this
theorem sa{key:α->List UInt8}{x':α}:∀{l:List α},cQ key l->(∃x∈l,key x=key x')->aq key x' l=l.map λy=>if key y==key x' then x' else y
 |[],_,h=>by obtain⟨x,hx,_⟩:=h;cases hx
 |y::r,hr,h=>by
  have hp:=MB.1 hr;by_cases e:key y=key x'
  ·have j:∀z∈r,(key z==key x')=false:=λz D=>by
    have h1:=hp.1 z D;rw[e]at h1;refine KN.2 λO=>?_
    rw[O,before_irrefl]at h1;cases h1
   have K:an key (key x') (y::r)=r:=by
    unfold an;rw[M_];simp only[e,beq_self_eq_true,Bool.not_true];rw[List.filter_eq_self.2 (λz D=>by rw[j z D];rfl)];rfl
   have I:dm key x' r=x'::r:=by
    cases r with
    |nil=>rfl
    |cons z r=>
     have h1:=hp.1 z (by simp);rw[e]at h1;unfold dm;rw[G_ h1]
   unfold aq;rw[K,I,Ks];simp only[e,beq_self_eq_true,Ml];rw[List.map_congr_left (g:=id) (λz D=>by rw[j z D];rfl),List.map_id]
  have hx:∃x∈r,key x=key x':=by
   obtain⟨x,hx,J⟩:=h;rcases JL.1 hx with h1|h1
   ·rw[h1]at J;exact absurd J e
   exact⟨x,h1,J⟩
  have M:=sa hp.2 hx;have U:Kk (key x') (key y)=false:=by
   obtain⟨x,hx,J⟩:=hx;have:=hp.1 x hx;rw[J]at this;exact fC this
  have he:(key y==key x')=false:=KN.2 e;unfold aq at M⊢;have K:an key (key x') (y::r)=y::an key (key x') r:=by
   unfold an;rw[M_,he];rfl
  rw[K];unfold dm;rw[U,I_ (by simp),M,Ks,he];rfl
theorem pa{xs:List ay}(h:w.ownsMap h_ 9 bJ b n (jI xs)):w.ownsMap h_ 9 bJ b xs.length (jI xs):=by
 obtain⟨es,clock,h1,h2,D,j⟩:=h;refine⟨es,clock,h1,h2,?_,j⟩;unfold jI at j;injection j with j;have:=J7 List.length j;rw[length_sorted]at this;simp at this;omega
theorem cC.put{xs:List ay}(h:cC w p pow xs mb)(x':ay)(Y:du w' x')(O:x'.v.ownBlock≠c_ x'.q)
  (I:w'.ownsMap h_ 9 bJ mb n (jI (aq bT x' xs)))
  (hp:w'.heap[p]?=w.heap[p]?) (Z:∀y∈xs,bT y≠bT x'->∀k∈aP y,w'.heap[k]?=w.heap[k]?)
  (M:∀k∈aP x',k≠p/\k≠mb/\∀y∈xs,bT y≠bT x'->k∉aP y):cC w' p pow (aq bT x' xs) mb:=by
 refine⟨hp.trans h.head,pa I,λy J=>?_,h.rising.aq,h.pm,λy J=>?_,λy J z V K k j D=>?_⟩
 ·rcases cP.1 J with rfl|⟨h1,h2⟩
  ·exact Y
  exact(h.files y h1).block (Z y h1 h2)
 ·rcases cP.1 J with rfl|⟨h1,h2⟩
  ·exact⟨λhm=>(M p hm).1 rfl,λhm=>(M mb hm).2.1 rfl,O⟩
  exact h.pf y h1
 rcases cP.1 J with rfl|⟨h1,h2⟩
 ·rcases cP.1 V with rfl|⟨U,X⟩
  ·exact K rfl
  exact(M k j).2.2 z U X D
 rcases cP.1 V with rfl|⟨U,X⟩
 ·exact(M k D).2.2 y h1 h2 j
 exact h.apart y h1 z U K k j D
theorem An{xs:List ay}{x':ay}(hx:∀k∈aP x',ek p mb xs k\/w.heap.size<=k):aH w (ek p mb xs) (ek p mb (aq bT x' xs)):=by
 rintro k (rfl|rfl|⟨y,D,j⟩)
 ·exact .inl (.inl rfl)
 ·exact .inl (.inr (.inl rfl))
 rcases cP.1 D with rfl|⟨h1,h2⟩
 ·exact hx k j
 exact .inl (.inr (.inr ⟨y,h1,j⟩))
theorem cC.Fk{xs:List ay}(h:cC w p pow xs mb){x x':ay}(hx:x∈xs)(hn:bT x'=bT x)(Y:x'.q=x.q)(Z:du w' x')(O:x'.v.ownBlock≠c_ x'.q)
  (D:Kept (·∈aP x) w w') (hg:∀g,x'.v.ownBlock=c_ g->x.v.ownBlock=c_ g\/w.heap.size<=g):
  cC w' p pow (aq bT x' xs) mb/\aH w (ek p mb xs) (ek p mb (aq bT x' xs)):=by
 have U:=F_ h.head;have K:∀k∈aP x',k∈aP x\/w.heap.size<=k:=by
  intro k D;unfold aP at D⊢;rcases JL.1 D with rfl|D
  ·left;rw[Y];simp
  rcases hg k (by simpa using D)with h1|h1
  ·left;simp[h1]
  exact .inr h1
 have M:jI (aq bT x' xs)=jI xs:=by
  rw[sa h.rising ⟨x,hx,hn.symm⟩];unfold jI;rw[Mv]
  congr 1
  apply List.map_congr_left;intro y J;simp only[Function.comp];split
  ·rename_i e
   have e':bT y=bT x:=by rw[<-hn];simpa using e
   have:=h.rising.uniq J hx e';subst this;have e2:x'.f.name=y.f.name:=hn;rw[Y,e2]
  rfl
 refine⟨h.put x' Z O (n:=xs.length) ?_ (D.block p U (h.pf x hx).1) (λy J I k j=>D.block k ((h.files y J).lt k j) (λV=>h.apart y J x hx (by rw[<-hn];exact I) k j V)) ?_,An λk D=>?_⟩
 ·rw[M]
  exact dF h.map (D.block mb h.map.lt (h.pf x hx).2.1)
 ·intro k X
  rcases K k X with h1|h1
  ·exact⟨λe=>(h.pf x hx).1 (e▸h1),λe=>(h.pf x hx).2.1 (e▸h1),λy J I j=>h.apart y J x hx (by rw[<-hn];exact I) k j h1⟩
  have h2:=h.map.lt;exact⟨by omega,by omega,λy J I j=>by have:=(h.files y J).lt k j;omega⟩
 rcases K k D with h1|h1
 ·exact .inl (.inr (.inr ⟨x,hx,h1⟩))
 exact .inr h1
theorem cC.drop{xs:List ay}(h:cC w p pow xs mb)(s:List UInt8)(D:w'.ownsMap h_ 9 bJ mb n (jI (an bT s xs)))(O:w.grownBy w' (c_ mb)):
  cC w' p pow (an bT s xs) mb:=by
 have M:∀k,k<w.heap.size->k≠mb->w'.heap[k]?=w.heap[k]?:=λk J K=>O.block k J (λe=>K (by cases e;rfl))
 refine⟨(M p (F_ h.head) h.pm).trans h.head,pa D,λy I=>?_,h.rising.an s,h.pm,λy I=>h.pf y (cq.1 I).1,λy I z U=>h.apart y (cq.1 I).1 z (cq.1 U).1⟩;have j:=(cq.1 I).1;exact(h.files y j).block (λk J=>M k ((h.files y j).lt k J) (λe=>(h.pf y j).2.1 (e▸J)))
theorem DS{xs:List ay}:aH w (ek p mb xs) (ek p mb (an bT s xs)):=by
 rintro k (rfl|rfl|⟨y,j,D⟩)
 ·exact .inl (.inl rfl)
 ·exact .inl (.inr (.inl rfl))
 exact .inl (.inr (.inr ⟨y,(cq.1 j).1,D⟩))
theorem aH.refl(w:j_)(F:Nat->Prop):aH w F F:=λ_ h=>.inl h
theorem aH.trans{j:Nat->Prop}(h:aH w F F')(D:aH w' F' j)(hs:w.heap.size<=w'.heap.size):aH w F j:=λk I=>by
 rcases D k I with h1|h1
 ·exact h k h1
 right;omega
def eJ(s L:List UInt8)(fs:List af):List af:=aq af.name (match aj af.name s fs with|some f=>⟨s,f.data++L,f.safe⟩|none=>⟨s,L,0⟩) fs
theorem al.sub(h:al S w v ls)(hS:∀b,S b->S' b):al S' w v ls:=h.ae λb j=>⟨hS b j,rfl⟩
theorem cC.drewN{xs:List ay}(h:cC w p pow xs mb)(n:Nat):cC (w.drewN n) p pow xs mb:=h.block λ_ _=>rfl
def gO(w:j_)(p:Nat)(pow:Int)(xs:List ay)(mb:Nat)(fs:List af)(w':j_):Prop:=
 ∃xs',xs'.map (·.f)=fs/\cC w' p pow xs' mb/\Kept (ek p mb xs) w w'/\aH w (ek p mb xs) (ek p mb xs')
theorem tV{xs:List ay}(h:cC w p pow xs mb){x:ay}(D:aj bT s xs=c_ x){v':m_}
  (J:du w' (x.set (x.f.data++L) v')) (hn:v'.ownBlock≠c_ x.q) (I:Kept (·∈aP x) w w') (K:∀g,v'.ownBlock=c_ g->x.v.ownBlock=c_ g\/w.heap.size<=g):gO w p pow xs mb (eJ s L (xs.map (·.f))) w':=by
 obtain⟨hx,j⟩:=aV D;obtain⟨h1,h2⟩:=h.Fk (x':=x.set (x.f.data++L) v') hx rfl rfl J hn I K;refine⟨_,?_,h1,I.mono (λk _ M=>.inr (.inr ⟨x,hx,M⟩)),h2⟩;rw[fX (key:=bT) (key':=af.name) ay.f (λ_=>rfl)];unfold eJ;rw[lA (key:=bT) (key':=af.name) ay.f (λ_=>rfl),D];simp only[Option.map_some];have:x.f.name=s:=j;rw[<-this];rfl
theorem qN{key:α->List UInt8}(y:α):∀l:List α,an key (key y) (dm key y l)=an key (key y) l
 |[]=>by simp[dm,an]
 |z::l=>by
  unfold dm;split
  ·simp[an,M_]
  have j:=qN (key:=key) y l;unfold an at j⊢;rw[M_,M_,j]
theorem vI{key:α->List UInt8}(s:List UInt8)(l:List α):an key s (an key s l)=an key s l:=by simp[an,List.filter_filter]
theorem xO{key:α->List UInt8}(x y:α)(h:key x=key y)(l:List α):aq key x (aq key y l)=aq key x l:=by
 unfold aq;rw[h,qN,vI]
theorem cC.fresh{xs:List ay}(h:cC w p pow xs mb)(s:List UInt8)(M:n_ w w W)(Z:W.heap[w.heap.size]?=c_ (f_ #[a_ b_ 0 0,.int d_ 0] 105 (0,0)))
  (D:w3.ownsMap h_ 9 bJ mb n ((jI xs).put (.string s) (.lit (.int d_ w)))) (O:W.grownBy w3 (c_ mb)):
  cC w3 p pow (aq bT ⟨⟨s,[],0⟩,w.heap.size,a_ b_ 0 0⟩ xs) mb/\Kept (ek p mb xs) w w3/\aH w (ek p mb xs) (ek p mb (aq bT ⟨⟨s,[],0⟩,w.heap.size,a_ b_ 0 0⟩ xs)):=by
 have U:=F_ h.head;have ad:=h.map.lt;have V:w.heap.size<W.heap.size:=F_ Z;have I:∀k,k<w.heap.size->k≠mb->w3.heap[k]?=w.heap[k]?:=λk j X=>(O.block k (Kc j M.size) (λe=>X (by cases e;rfl))).trans (M.block k j)
 have J:∀k∈aP ⟨⟨s,[],0⟩,w.heap.size,a_ b_ 0 0⟩,k=w.heap.size:=λk j=>by simpa[aP,KT]using j
 refine⟨h.put _ ⟨?_,⟨by simp[l_],.inl ⟨rfl,rfl⟩⟩,by simp⟩ (by simp[KT]) (n:=n) ?_ (I p U h.pm) (λy K _ k j=>I k ((h.files y K).lt k j) (λe=>(h.pf y K).2.1 (e▸j))) ?_,?_,An ?_⟩
 ·show w3.heap[w.heap.size]?=_
  rw[O.block _ V (λe=>by cases e;omega)];exact Z
 ·rw[<-ug];exact D
 ·intro k j
  have:=J k j;subst this;exact⟨by omega,by omega,λy K _ Y=>by have:=(h.files y K).lt _ Y;omega⟩
 ·exact(Kept.ar M).grown O (λk e=>by cases e;exact .inl (.inr (.inl rfl)))
 intro k j;right;have:=J k j;omega
theorem tU{xs:List ay}(J:aj bT s xs=b_)
  (K:cC w3 p pow (aq bT ⟨⟨s,[],0⟩,w.heap.size,a_ b_ 0 0⟩ xs) mb) (j:Kept (ek p mb xs) w w3) (D:aH w (ek p mb xs) (ek p mb (aq bT ⟨⟨s,[],0⟩,w.heap.size,a_ b_ 0 0⟩ xs))) {v':m_}
  (M:du w' ⟨⟨s,L,0⟩,w.heap.size,v'⟩) (hn:v'.ownBlock≠c_ w.heap.size) (I:Kept (·∈aP ⟨⟨s,[],0⟩,w.heap.size,a_ b_ 0 0⟩) w3 w') (O:∀g,v'.ownBlock=c_ g->w3.heap.size<=g):gO w p pow xs mb (eJ s L (xs.map (·.f))) w':=by
 have hx:(⟨⟨s,[],0⟩,w.heap.size,a_ b_ 0 0⟩:ay)∈aq bT ⟨⟨s,[],0⟩,w.heap.size,a_ b_ 0 0⟩ xs:=cP.2 (.inl rfl);obtain⟨h1,h2⟩:=K.Fk (x':=⟨⟨s,L,0⟩,w.heap.size,v'⟩) hx rfl rfl M hn I (λg e=>.inr (O g e));refine⟨_,?_,h1,j.trans (I.mono (λk _ U=>?_)) D,aH.trans D h2 j.size⟩
 ·rw[xO (key:=bT) ⟨⟨s,L,0⟩,w.heap.size,v'⟩ ⟨⟨s,[],0⟩,w.heap.size,a_ b_ 0 0⟩ rfl,fX (key:=bT) (key':=af.name) ay.f (λ_=>rfl)]
  unfold eJ;rw[lA (key:=bT) (key':=af.name) ay.f (λ_=>rfl),J];rfl
 exact .inr (.inr ⟨_,hx,U⟩)
theorem vq(w:j_)(p:Nat)(pow:Int)(xs:List ay)(mb:Nat)(h:cC w p pow xs mb)(bf bn O:Nat)(s:ByteArray)(hs:s.size<=9223372036854775807)(v:m_)(ls:List (List UInt8))
  (U:w.cell? ⟨bf,0,b_⟩=c_ (i_ (c_ ⟨p,0,b_⟩))) (V:w.cell? ⟨bn,0,b_⟩=c_ (.string s)) (I:w.cell? ⟨O,0,b_⟩=c_ v)
  (ad:¬ek p mb xs O) (hp:al (Out w (ek p mb xs)) w v ls) (hlen:∀x∈xs,x.f.data.length+ls.flatten.length<=2147483648) (X:ls.flatten.length<=2147483648) (bt:xs.length<2147483648):
  H_ h_ 86 #[i_ (c_ ⟨bf,0,b_⟩),i_ (c_ ⟨bn,0,b_⟩),i_ (c_ ⟨O,0,b_⟩)] w λe w'=>e=k_ (J_ #[])/\gO w p pow xs mb (eJ s.data.toList ls.flatten (xs.map (·.f))) w':=by
 have Y:w.cell? ⟨p,0,b_⟩=c_ (.map (c_ mb)):=by simp[E_,h.head]
 have j:=h.look s hs;unfold pg at j;obtain⟨A0,c0,rfl,_⟩:∃A0 c0,v=a_ A0 ls.length c0/\True:=by
  obtain⟨vs,h1,⟨A,c,h2,_⟩,_⟩:=hp;exact⟨A,c,by rw[h2,h1],trivial⟩
 cases hf:aj bT s.data.toList xs with
 |some x=>
  rw[hf]at j;have HF:=Z_ hf;clear hf;have M:=Z_ hlen;clear hlen;have Z:=Z_ h;clear h;go_enter Tryz.func86,Tryz.ntmps86;go_wp2_with fail
  go_quiet (fail)
  go_wp2_with fail;obtain⟨hx,bx⟩:=aV HF.o;refine(zz x _ (((Z.o.drewN _).files x hx)) (Z.o.pf x hx).2.2 _ ls (al.sub (w:=w.drewN _) hp (λb hb=>⟨hb.1,λhm=>hb.2 (.inr (.inr ⟨x,hx,hm⟩))⟩)) (M.o x hx)).mono ?_;rintro e w1 ⟨rfl,v',hF,hN,hK,hG⟩;clear j;go_wp2
  go_end0
  exact⟨rfl,tV Z.o HF.o hF hN ⟨hK.os,hK.tape,hK.output,hK.size,hK.block⟩ hG⟩
 |none=>
  rw[hf]at j;have HF:=Z_ hf;clear hf;have M:=Z_ hlen;clear hlen;have Z:=Z_ h;clear h;go_enter Tryz.func86,Tryz.ntmps86;go_wp2_with fail
  go_quiet (fail)
  go_wp2_with fail;have ak:bf≠w.heap.size:=by have:=JY w _ U;simp at this;omega
  have av:bn≠w.heap.size:=by have:=JY w _ V;simp at this;omega
  have a1:p≠w.heap.size:=by have:=JY w _ Y;simp at this;omega
  have a2:O≠w.heap.size:=by have:=JY w _ I;simp at this;omega
  obtain⟨W,hW⟩:=N_ ((w.drewN nq).alloc (f_ #[a_ b_ 0 0,.int d_ 0] 105));have J:∀b o,b≠w.heap.size->W.cell? ⟨b,o,b_⟩=w.cell? ⟨b,o,b_⟩:=λb o hb=>by rw[hW];exact World.cell?_alloc_old _ _ _ hb
  have g0:=(J bf 0 ak).trans U;have g1:=(J bn 0 av).trans V;have g2:=(J p 0 a1).trans Y;have g3:=(J O 0 a2).trans I;have ba:W.heap.size=w.heap.size+1:=by rw[hW];simp
  rw[<-hW];have bk:=Z_ I;have bm:=Z_ (JY w _ I);have HW:=Z_ hW;clear hW j J U V Y I;have bB:=Z_ ba;clear ba;have bb:n_ w w W:=by rw[HW.o];exact(below_drewN B_ nq).alloc L_ _
  have bd:W.heap[w.heap.size]?=c_ (f_ #[a_ b_ 0 0,.int d_ 0] 105 (0,0)):=by rw[HW.o];exact r_ (w.drewN nq) _
  have bg:W.drew.ownsMap h_ 9 bJ mb xs.length (jI xs):=dF Z.o.map (bb.block mb Z.o.map.lt)
  go_still_tail 6,K_
  change MS _ _ _ _ _ W.drew;refine wpList_mapUpdate_own _ rfl _ _ _ 89 rfl 9 101 rY Lz bJ mb xs.length (jI xs) rfl bg (by unfold JT;omega) _ _ (.string s.data.toList) rfl rfl (iw s hs) (.lit (.int d_ w)) [] rfl ?_;intro w3 K D;obtain⟨h3,k3,bj⟩:=Z.o.fresh s.data.toList bb bd K ⟨D.os,D.tape,D.output,D.size,D.block⟩;have hx:(⟨⟨s.data.toList,[],0⟩,w.heap.size,a_ b_ 0 0⟩:ay)∈aq bT ⟨⟨s.data.toList,[],0⟩,w.heap.size,a_ b_ 0 0⟩ xs:=cP.2 (.inl rfl);have bo:=hp.kept k3 bj;have bN:w3.cell? ⟨O,0,b_⟩=c_ (a_ A0 ls.length c0):=(k3.cell (p:=⟨O,0,b_⟩) bm.o ad).trans bk.o;clear D K bg bd;go_wp2_with fail;refine(zz ⟨⟨s.data.toList,[],0⟩,w.heap.size,a_ b_ 0 0⟩ _ (h3.files _ hx) (by simp[KT]) _ ls (bo.sub (λb hb=>⟨hb.1,λhm=>hb.2 (.inr (.inr ⟨_,hx,hm⟩))⟩)) (by simpa using X)).mono ?_;rintro e w4 ⟨rfl,v',hF,hN,hK,hG⟩;go_wp2
  go_end0
  refine⟨rfl,tU HF.o h3 k3 bj (by simpa[ay.set]using hF) hN hK (λg e=>?_)⟩;rcases hG g e with h|h
  ·simp[KT]at h
  exact h
def cT(st:St)(fs:List af):St×Int:=if st.aa=0 then(st,13)else(⟨dec st.aa,fs⟩,0)
def br(st:St)(s L:List UInt8):St×Int:=if bS s then cT st (eJ s L st.files)else(st,10)
def b9(w:j_)(p:Nat)(F:Nat->Prop)(r:St×Int)(e:Ending)(w':j_):Prop:=
 ∃F',e=k_ (e_ d_ r.2)/\Jw w' p r.1 F'/\Kept F w w'/\aH w F F'
theorem b9.same{st:St}{n:Int}(h:Jw w p st F)(j:n_ w w w'):b9 w p F (st,n) (k_ (e_ d_ n)) w':=
 ⟨F,rfl,h.ae (λk D=>j.block k (h.lt k D)),Kept.ar j,aH.refl _ _⟩
theorem b9.G9{I:j_}{st:St}{xs:List ay}{fs:List af}(J:st.aa≠0)(U:n_ w w W)(h:cC W p st.aa xs mb)(j:Kept (·=p) W I)(V:gO I p (dec st.aa) xs mb fs w'):
  b9 w p (ek p mb xs) (cT st fs) (k_ (e_ d_ 0)) w':=by
 obtain⟨K,h1,h2,X,Y⟩:=V;unfold cT;rw[I_ J];have D:Kept (ek p mb xs) w I:=(Kept.ar U).trans' ⟨j.os,j.tape,j.output,j.size,λi hi hn=>j.block i hi (λe=>hn (.inl e))⟩;exact⟨_,rfl,⟨K,mb,h1.symm,h2,rfl⟩,D.trans' X,λk M=>by
  rcases Y k M with O|O
  ·exact .inl O
  right;have:=D.size;omega⟩
theorem cC.below{xs:List ay}(h:cC w p pow xs mb)(j:n_ w w w'):cC w' p pow xs mb:=h.block λk D=>j.block k (h.lt k D)
def Modest(st:St)(n:Nat):Prop:=(∀f∈st.files,f.data.length+n<=2147483648)/\n<=2147483648/\st.files.length<2147483648/\st.aa<=9223372036854775807
theorem fg(w:j_)(v:m_)(t:Ki):(w.alloc (f_ #[v] t)).cell? ⟨w,0,b_⟩=c_ v:=by simp
theorem eh{o:Nat}{ob:Obj}(h:w.cell? ⟨b,o,b_⟩=c_ v):(w.alloc ob).cell? ⟨b,o,b_⟩=c_ v:=by
 rw[World.cell?_alloc_lt _ _ _ (JY w _ h)];exact h
theorem qx(w:j_)(p:Nat)(st:St)(F:Nat->Prop)(h:Jw w p st F)(s:ByteArray)(hs:s.size<=9223372036854775807)(v:m_)(ls:List (List UInt8))(hp:al (Out w F) w v ls)(hm:Modest st ls.flatten.length):
  H_ h_ 46 #[i_ (c_ ⟨p,0,b_⟩),g_ s,v] w (b9 w p F (br st s.data.toList ls.flatten)):=by
 obtain⟨xs,mb,Y,O,rfl⟩:=h;obtain⟨U,c0,rfl,_⟩:∃U c0,v=a_ U ls.length c0/\True:=by
  obtain⟨vs,h1,⟨A,c,h2,_⟩,_⟩:=hp;exact⟨A,c,by rw[h2,h1],trivial⟩
 have hb:n_ w w (((w.alloc (f_ #[i_ (c_ ⟨p,0,b_⟩)] 25)).alloc (f_ #[g_ s] 9)).alloc (f_ #[a_ U ls.length c0] 22)):=((((JG _ w).alloc L_ _).alloc (by simp) _).alloc (by simp;omega) _);have M:=O.below hb;have Z:=hp.below hb;have hn:=λW=>jS s W hs
 unfold br;have HB:=Z_ hb;clear hb;have J:=Z_ O;clear O;have j:=Z_ M;clear M;have ak:=Z_ Z;clear Z hp;have HM:=Z_ hm;clear hm;have D:=Z_ Y;clear Y;cases ad:bS s.data.toList with
 |false=>
  rw[ad]at hn;simp only[Bool.false_eq_true,if_false];go_enter Tryz.func46,Tryz.ntmps46;go_wp2_with (go_at_call 85;refine(hn _).mono ?_;rintro e V ⟨rfl,rfl⟩);go_ret;exact b9.same ⟨xs,mb,D.o,J.o,rfl⟩ HB.o
 |true=>
  rw[ad]at hn;simp only[Ml];by_cases X:st.aa=0
  ·have hr:cT st (eJ s.data.toList ls.flatten st.files)=(st,13):=by unfold cT;rw[G_ X]
   rw[hr];rw[X]at j;have HZ:=Z_ X;clear X hr;go_enter Tryz.func46,Tryz.ntmps46;go_wp2_with (go_at_call 85;refine(hn _).mono ?_;rintro e V ⟨rfl,rfl⟩);refine(gC _ p xs mb j.o _).mono ?_;rintro e V ⟨rfl,rfl⟩;go_wp2;go_ret;exact b9.same ⟨xs,mb,D.o,J.o,rfl⟩ HB.o
  have HZ:=Z_ X;clear X;go_enter Tryz.func46,Tryz.ntmps46;go_wp2_with (go_at_call 85;refine(hn _).mono ?_;rintro e V ⟨rfl,rfl⟩);refine(sk _ p st.aa xs mb j.o HZ.o HM.o.2.2.2 _ (λw'=>b9 w p (ek p mb xs) (cT st (eJ s.data.toList ls.flatten st.files)) (k_ (e_ d_ 0)) w') (λV h1 K s1=>?_)).mono ?_
  ·have e0:=eh (ob:=f_ #[a_ U ls.length c0] 22) (eh (ob:=f_ #[g_ s] 9) (fg w (i_ (c_ ⟨p,0,b_⟩)) 25))
   have e1:=eh (ob:=f_ #[a_ U ls.length c0] 22) (fg (w.alloc (f_ #[i_ (c_ ⟨p,0,b_⟩)] 25)) (g_ s) 9);have e2:=fg ((w.alloc (f_ #[i_ (c_ ⟨p,0,b_⟩)] 25)).alloc (f_ #[g_ s] 9)) (a_ U ls.length c0) 22;simp only[JQ]at e1 e2;have av:=J.o.lt;have ba:p<w:=F_ J.o.head;have a1:aH (((w.alloc (f_ #[i_ (c_ ⟨p,0,b_⟩)] 25)).alloc (f_ #[g_ s] 9)).alloc (f_ #[a_ U ls.length c0] 22)) (ek p mb xs) (ek p mb xs):=aH.refl _ _;refine(vq V p (dec st.aa) xs mb h1 w (w+1) (w.heap.size+1+1) s hs _ ls ((K.cell (p:=⟨_,_,_⟩) (by first|omega|(simp;done)|(simp;omega)) (by first|omega|(simp;done)|(simp;omega))).trans e0) ((K.cell (p:=⟨_,_,_⟩) (by first|omega|(simp;done)|(simp;omega)) (by first|omega|(simp;done)|(simp;omega))).trans e1) ((K.cell (p:=⟨_,_,_⟩) (by first|omega|(simp;done)|(simp;omega)) (by first|omega|(simp;done)|(simp;omega))).trans e2) (λhm=>by have:=av _ hm;omega)
    (ak.o.kept ⟨K.os,K.tape,K.output,K.size,λi hi hn=>K.block i hi (λe=>hn (.inl e))⟩ a1) (λx hx=>HM.o.1 x.f (by rw[D.o];exact Kw hx)) HM.o.2.1 (by have:=HM.o.2.2.1;rw[D.o]at this;simpa using this)).mono ?_
   rintro e w2 ⟨rfl,hd⟩;rw[<-D.o]at hd;exact⟨rfl,b9.G9 HZ.o HB.o j.o K hd⟩
  rintro e V ⟨rfl,I⟩;have a2:=Z_ I;clear I;go_wp2;go_ret;exact a2.o
def bH(st:St)(s:List UInt8):Except Int af:=if bS s then(match aj af.name s st.files with|some f=>.ok f|none=>.error 11)else .error 10
def dG(st:St)(s:List UInt8):St×Int:=match bH st s with
 | .error e=>(st,e)
 | .ok f=>cT st (aq af.name ⟨f.name,f.data,f.data.length⟩ st.files)
def cD(st:St)(s:List UInt8):St×Int:=match bH st s with
 | .error e=>(st,e)
 | .ok f=>cT st (an af.name s st.files)
def aF(st:St)(s:List UInt8)(n:Int):St×Int:=match bH st s with
 | .error e=>(st,e)
 | .ok f=>if n<0\/(f.data.length:Int)<n then(st,12)else cT st (aq af.name ⟨f.name,f.data.take n.toNat,min f.safe n.toNat⟩ st.files)
def db(st:St)(a b:List UInt8):St×Int:=if bS a&&bS b then(match bH st a with
 | .error e=>(st,e)
 | .ok f=>cT st (aq af.name ⟨b,f.data,f.safe⟩ (an af.name a st.files)))else(st,10)
theorem mV{st:St}{xs:List ay}(j:st.files=xs.map (·.f))(s:List UInt8){e:Ending}(h:ql w xs s e w'):
  (∃n,bH st s=.error n/\n≠0/\e=k_ (J_ #[i_ b_,e_ d_ n]))\/(∃x,bH st s=.ok x.f/\x∈xs/\bT x=s/\bS s=v_/\aj bT s xs=c_ x/\e=k_ (J_ #[i_ (c_ ⟨x.q,0,b_⟩),e_ d_ 0])):=by
 obtain⟨_,h⟩:=h;unfold bH;cases hn:bS s with
 |false=>
  rw[hn]at h;exact .inl ⟨10,by simp,by decide,h⟩
 |true=>
  rw[hn]at h;rw[j,lA (key:=bT) (key':=af.name) ay.f (λ_=>rfl)];cases D:aj bT s xs with
  |none=>rw[D]at h;exact .inl ⟨11,by simp,by decide,h⟩
  |some x=>
   rw[D]at h;obtain⟨h1,h2⟩:=aV D;exact .inr ⟨x,by simp,h1,h2,rfl,rfl,h⟩
theorem Ej{xs:List ay}(h:cC w p pow xs mb){x:ay}(hx:x∈xs)(n:Nat):
  gO w p pow xs mb (aq af.name ⟨x.f.name,x.f.data,x.f.data.length⟩ (xs.map (·.f))) ((w.drewN n).setCell ⟨x.q,1,b_⟩ (e_ d_ x.f.data.length)):=by
 have D:=h.files x hx;have j:=h.pf x hx;have I:Kept (·∈aP x) w ((w.drewN n).setCell ⟨x.q,1,b_⟩ (e_ d_ x.f.data.length)):=((Kept.refl _ w).drewN n).setCell (p:=⟨x.q,1,b_⟩) (.inl (by simp[aP])) _;obtain⟨h1,h2⟩:=h.Fk (x':=⟨⟨x.f.name,x.f.data,x.f.data.length⟩,x.q,x.v⟩) hx rfl rfl (w':=(w.drewN n).setCell ⟨x.q,1,b_⟩ (e_ d_ x.f.data.length))
  ⟨dP (w:=w.drewN n) D.head,Mc (w:=w.drewN n) (a:=⟨x.q,1,b_⟩) D.row j.2.2 _,Kh _⟩ j.2.2 I (λg e=>.inl e)
 exact⟨_,by rw[fX (key:=bT) (key':=af.name) ay.f (λ_=>rfl)],h1,I.mono (λk _ J=>.inr (.inr ⟨x,hx,J⟩)),h2⟩
theorem du.form{x:ay}(h:du w x):∃A c,x.v=a_ A x.f.data.length c:=by
 have:=h.own.form;rwa[t_]at this
theorem Cu(w:j_)(p:Nat)(pow:Int)(xs:List ay)(mb:Nat)(h:cC w p pow xs mb)(x:ay)(hx:x∈xs)(D:Nat)(J:w.cell? ⟨D,0,b_⟩=c_ (i_ (c_ ⟨x.q,0,b_⟩))):
  H_ h_ 142 #[i_ (c_ ⟨D,0,b_⟩)] w λe w'=>e=k_ (J_ #[])/\gO w p pow xs mb (aq af.name ⟨x.f.name,x.f.data,x.f.data.length⟩ (xs.map (·.f))) w':=by
 obtain⟨A,c,I⟩:=(h.files x hx).form;have j:=(h.files x hx).head;rw[I]at j;have c0:w.cell? ⟨x.q,0,b_⟩=c_ (a_ A x.f.data.length c):=by simp[E_,j]
 have c1:w.cell? ⟨x.q,1,b_⟩=c_ (e_ d_ x.f.safe):=by simp[E_,j]
 have f1:w.frozen? ⟨x.q,1,b_⟩=false:=by simp[JW,j]
 have HD:=Z_ (λn=>Ej h hx n);clear I j h;go_enter Tryz.func142,Tryz.ntmps142;go_wp2_with fail
 go_region
 go_end0
 exact⟨rfl,HD.o _⟩
theorem rV{st:St}{n:Int}(h:bH st s=.error n):dG st s=(st,n):=by unfold dG;rw[h]
theorem lH{st:St}{f:af}(h:bH st s=.ok f):dG st s=cT st (aq af.name ⟨f.name,f.data,f.data.length⟩ st.files):=by unfold dG;rw[h]
theorem nG{st:St}{n:Int}(h:bH st s=.error n):cD st s=(st,n):=by unfold cD;rw[h]
theorem pM{st:St}{f:af}(h:bH st s=.ok f):cD st s=cT st (an af.name s st.files):=by unfold cD;rw[h]
theorem xI(w:j_)(p:Nat)(st:St)(F:Nat->Prop)(h:Jw w p st F)(s:ByteArray)(hs:s.size<=9223372036854775807)(Z:st.aa<=9223372036854775807):
  H_ h_ 110 #[i_ (c_ ⟨p,0,b_⟩),g_ s] w (b9 w p F (dG st s.data.toList)):=by
 have h':=h;obtain⟨xs,mb,J,I,rfl⟩:=h;have ba:p<w:=F_ I.head;have K:=Z_ I;clear I;have M:=Z_ J;clear J;have HS:=Z_ h';clear h';obtain⟨r,hr⟩:=N_ (dG st s.data.toList);rw[<-hr];have HR:=Z_ hr;clear hr;go_enter Tryz.func110,Tryz.ntmps110;go_wp2_with fail;refine(kG s hs w p st.aa xs mb K.o).mono ?_;intro e Y j;obtain rfl:=j.1;rcases mV M.o s.data.toList j with⟨n,he,O,rfl⟩|⟨x,he,hx,ad,ak,av,rfl⟩
 ·have U:=Z_ (HR.o.trans (rV he))
  have hq:(n !=0)=true:=by simpa using O
  clear j he O;go_wp2;go_ret;rw[U.o];exact b9.same HS.o (B_.alloc L_ _)
 have U:=Z_ (HR.o.trans (lH he));have hb:n_ w w (w.alloc (f_ #[i_ (c_ ⟨x.q,0,b_⟩)] 101)):=B_.alloc L_ _;have HB:=Z_ hb;have D:=Z_ (K.o.below hb);clear j he hb ad ak av;by_cases V:st.aa=0
 ·have X:cT st (aq af.name ⟨x.f.name,x.f.data,x.f.data.length⟩ st.files)=(st,13):=by unfold cT;rw[G_ V]
  rw[V]at D;have a1:=Z_ (U.o.trans X);clear V X U;go_wp2_with fail;refine(gC _ p xs mb D.o _).mono ?_;rintro e Y ⟨rfl,rfl⟩;go_wp2;go_ret;rw[a1.o];exact b9.same HS.o HB.o
 have HZ:=Z_ V;clear V;go_wp2_with fail;refine(vz _ p st.aa xs mb D.o HZ.o Z _ (λw'=>b9 w p (ek p mb xs) r (k_ (e_ d_ 0)) w') (λY h1 k1 s1=>?_)).mono ?_
 ·have e0:=fg w (i_ (c_ ⟨x.q,0,b_⟩)) 101
  refine(Cu Y p (dec st.aa) xs mb h1 x hx w ((k1.cell (p:=⟨_,_,_⟩) (by simp) (by simp;omega)).trans e0)).mono ?_;rintro e w2 ⟨rfl,X⟩;rw[<-M.o]at X;rw[U.o];exact⟨rfl,b9.G9 HZ.o HB.o D.o k1 X⟩
 rintro e Y ⟨rfl,j⟩;have a2:=Z_ j;clear j;go_wp2;go_ret;exact a2.o
theorem rL{xs:List ay}(h:cC w p pow xs mb)(s:List UInt8)(J:W.heap=w.heap)(O:W.os=w.os)(U:W.tape=w.tape)(K:W.output=w.output)
  (j:w3.ownsMap h_ 9 bJ mb n ((jI xs).del (.string s))) (D:W.grownBy w3 (c_ mb)):gO w p pow xs mb (an af.name s (xs.map (·.f))) w3:=by
 have I:w.grownBy w3 (c_ mb):=⟨D.os.trans O,D.tape.trans U,D.output.trans K,by have:=D.size;rw[J]at this;exact this,λk V M=>by have:=D.block k (by rw[J];exact V) M;rw[J]at this;exact this⟩;rw[zO]at j;exact⟨_,by rw[lz (key:=bT) (key':=af.name) ay.f (λ_=>rfl)],h.drop s j I,(Kept.refl _ w).grown I (λk e=>by cases e;exact .inl (.inr (.inl rfl))),DS⟩
theorem wW(w:j_)(p:Nat)(pow:Int)(xs:List ay)(mb:Nat)(h:cC w p pow xs mb)(J K:Nat)(s:ByteArray)(hs:s.size<=9223372036854775807)
  (M:w.cell? ⟨J,0,b_⟩=c_ (i_ (c_ ⟨p,0,b_⟩))) (O:w.cell? ⟨K,0,b_⟩=c_ (.string s)):
  H_ h_ 81 #[i_ (c_ ⟨J,0,b_⟩),i_ (c_ ⟨K,0,b_⟩)] w λe w'=>e=k_ (J_ #[])/\gO w p pow xs mb (an af.name s.data.toList (xs.map (·.f))) w':=by
 have U:w.cell? ⟨p,0,b_⟩=c_ (.map (c_ mb)):=by simp[E_,h.head]
 have D:w.drew.ownsMap h_ 9 bJ mb xs.length (jI xs):=h.map;have V:=Z_ h;clear h;go_enter Tryz.func81,Tryz.ntmps81;go_wp2_with fail
 go_still_tail 5,K_
 change MS _ _ _ _ _ w.drew;refine wpList_delete_own _ rfl _ _ 89 9 rfl 101 rY Lz bJ mb xs.length (jI xs) rfl D _ (.string s.data.toList) rfl (iw s hs) ?_;intro w3 j I;have HD:=Z_ (rL V.o s.data.toList (W:=w.drew) rfl rfl rfl rfl j I.grown);clear j I D;go_wp2
 go_end0
 exact⟨rfl,HD.o⟩
theorem yS(w:j_)(p:Nat)(st:St)(F:Nat->Prop)(h:Jw w p st F)(s:ByteArray)(hs:s.size<=9223372036854775807)(Y:st.aa<=9223372036854775807):
  H_ h_ 42 #[i_ (c_ ⟨p,0,b_⟩),g_ s] w (b9 w p F (cD st s.data.toList)):=by
 have h':=h;obtain⟨xs,mb,J,I,rfl⟩:=h;have ba:p<w:=F_ I.head;have Z:=Z_ I;clear I;have K:=Z_ J;clear J;have HS:=Z_ h';clear h';obtain⟨r,hr⟩:=N_ (cD st s.data.toList);rw[<-hr];have HR:=Z_ hr;clear hr;have hb:n_ w w ((w.alloc (f_ #[i_ (c_ ⟨p,0,b_⟩)] 25)).alloc (f_ #[g_ s] 9)):=(((JG _ w).alloc L_ _).alloc (by simp) _);have HB:=Z_ hb;have D:=Z_ (Z.o.below hb);clear hb;go_enter Tryz.func42,Tryz.ntmps42;go_wp2_with fail;refine(kG s hs _ p st.aa xs mb D.o).mono ?_;intro e X j;obtain rfl:=j.1;rcases mV K.o s.data.toList j with⟨n,he,M,rfl⟩|⟨x,he,hx,ad,ak,av,rfl⟩
 ·have O:=Z_ (HR.o.trans (nG he))
  have hq:(n !=0)=true:=by simpa using M
  clear j he M;go_wp2;go_ret;rw[O.o];exact b9.same HS.o HB.o
 have O:=Z_ (HR.o.trans (pM he));clear j he ad ak av;by_cases U:st.aa=0
 ·have V:cT st (an af.name s.data.toList st.files)=(st,13):=by unfold cT;rw[G_ U]
  rw[U]at D;have a1:=Z_ (O.o.trans V);clear U V O;go_wp2_with fail;refine(gC _ p xs mb D.o _).mono ?_;rintro e X ⟨rfl,rfl⟩;go_wp2;go_ret;rw[a1.o];exact b9.same HS.o HB.o
 have HZ:=Z_ U;clear U;go_wp2_with fail;refine(so _ p st.aa xs mb D.o HZ.o Y _ (λw'=>b9 w p (ek p mb xs) r (k_ (e_ d_ 0)) w') (λX h1 k1 s1=>?_)).mono ?_
 ·have e0:=eh (ob:=f_ #[g_ s] 9) (fg w (i_ (c_ ⟨p,0,b_⟩)) 25)
  have e1:=fg (w.alloc (f_ #[i_ (c_ ⟨p,0,b_⟩)] 25)) (g_ s) 9;simp only[JQ]at e1;refine(wW X p (dec st.aa) xs mb h1 w (w+1) s hs ((k1.cell (p:=⟨_,_,_⟩) (by first|omega|(simp;done)|(simp;omega)) (by first|omega|(simp;done)|(simp;omega))).trans e0) ((k1.cell (p:=⟨_,_,_⟩) (by first|omega|(simp;done)|(simp;omega)) (by first|omega|(simp;done)|(simp;omega))).trans e1)).mono ?_;rintro e w2 ⟨rfl,V⟩;rw[<-K.o]at V;rw[O.o];exact⟨rfl,b9.G9 HZ.o HB.o D.o k1 V⟩
 rintro e X ⟨rfl,j⟩;have a2:=Z_ j;clear j;go_wp2;go_ret;exact a2.o
theorem xC(A:Option Kb)(n c N:Nat)(w:j_)(h:N<=c):(Instr.slice 24 (a_ A n c) b_ (c_ (e_ d_ (N:Int))) b_).run h_ w=.ok (a_ A N c) w:=by
 have j:h_.underlying 24=c_ (.slice (h_.elem 24)):=by simp[K7,J9]
 have he:h_.elem 24=5:=by simp[K7,J9]
 rw[run_slice_h w 24 _ _ _ j d_ _ O_ O_,he,My];simp only[Result.andThen,sliced];cases A<;>simp[Mo]
theorem ng{l:List UInt8}(h:w.ownsRow 0 5 1 (a_ A l.length c) l.length (l_ l))(n:Nat)(hn:n<=l.length):w.ownsRow 0 5 1 (a_ A n c) n (l_ (l.take n)):=by
 refine⟨by rw[t_,JN];omega,?_⟩;rcases h.2 with⟨h1,h2⟩|⟨g,cap,cur,h1,h2,j,K,D,I,J⟩
 ·obtain⟨rfl,_,rfl⟩:=Value.slice.inj h1
  have:n=0:=by omega
  subst this;exact .inl ⟨rfl,rfl⟩
 cases h1;refine .inr ⟨g,c,cur,rfl,h2,j,by omega,D,I,?_⟩;have:=J7 (List.take n) J;rw[List.take_take]at this;rw[show min n (l.length*1)=n*1 by omega]at this;rw[this];simp[l_,List.map_take]
theorem qb{xs:List m_}(h:w.ownsRow b 5 1 (a_ A n c) n xs):n<=c/\c<=9223372036854775807:=by
 rcases h.2 with⟨h1,h2⟩|⟨g,cap,cur,h1,h2,I,j,D,J,K⟩
 ·cases h1;exact⟨by omega,by omega⟩
 cases h1;exact⟨j,by simpa[JT]using D⟩
theorem uW{xs:List ay}(h:cC w p pow xs mb){x:ay}(hx:x∈xs)(J:x.v=a_ A x.f.data.length c)(n:Nat)(hn:n<=x.f.data.length)(w':j_)
  (hw:∃a b,w'=(((w.drewN a).setCell ⟨x.q,0,b_⟩ (a_ A n c)).drewN b).setCell ⟨x.q,1,b_⟩ (e_ d_ (min x.f.safe n:Nat))):
  gO w p pow xs mb (aq af.name ⟨x.f.name,x.f.data.take n,min x.f.safe n⟩ (xs.map (·.f))) w':=by
 obtain⟨a,b,rfl⟩:=hw;have O:=h.files x hx;have K:=h.pf x hx;have j:(a_ A n c).ownBlock=x.v.ownBlock:=by rw[J];cases A<;>rfl
 have U:Kept (·∈aP x) w ((((w.drewN a).setCell ⟨x.q,0,b_⟩ (a_ A n c)).drewN b).setCell ⟨x.q,1,b_⟩ (e_ d_ (min x.f.safe n:Nat))):=
  ((((Kept.refl _ w).drewN a).setCell (p:=⟨x.q,0,b_⟩) (.inl (by simp[aP])) _).drewN b).setCell (p:=⟨x.q,1,b_⟩) (.inl (by simp[aP])) _
 have D:=O.row;rw[J]at D;have I:(a_ A n c).ownBlock≠c_ x.q:=by rw[j];exact K.2.2
 have M:(((w.drewN a).setCell ⟨x.q,0,b_⟩ (a_ A n c)).drewN b).ownsRow 0 5 1 (a_ A n c) n (l_ (x.f.data.take n)):=
  Mc (w:=w.drewN a) (a:=⟨x.q,0,b_⟩) (ng D n hn) I _
 have V:=O.head;rw[J]at V;obtain⟨h1,h2⟩:=h.Fk (x':=⟨⟨x.f.name,x.f.data.take n,min x.f.safe n⟩,x.q,a_ A n c⟩) hx rfl rfl
  (w':=(((w.drewN a).setCell ⟨x.q,0,b_⟩ (a_ A n c)).drewN b).setCell ⟨x.q,1,b_⟩ (e_ d_ (min x.f.safe n:Nat)))
  ⟨dP (w:=((w.drewN a).setCell ⟨x.q,0,b_⟩ (a_ A n c)).drewN b) (eS (w:=w.drewN a) V),by
   have:=Mc (a:=⟨x.q,1,b_⟩) M I (e_ d_ (min x.f.safe n:Nat));simpa[K2 hn]using this,by simp;omega⟩ I U (λg e=>.inl (by rw[<-j];exact e))
 exact⟨_,by rw[fX (key:=bT) (key':=af.name) ay.f (λ_=>rfl)],h1,U.mono (λk _ X=>.inr (.inr ⟨x,hx,X⟩)),h2⟩
theorem sJ(w:j_)(p:Nat)(pow:Int)(xs:List ay)(mb:Nat)(h:cC w p pow xs mb)(x:ay)(hx:x∈xs)(n:Nat)(hn:n<=x.f.data.length)(I J:Nat)(ad:w.cell? ⟨I,0,b_⟩=c_ (i_ (c_ ⟨x.q,0,b_⟩)))
  (ak:w.cell? ⟨J,0,b_⟩=c_ (e_ d_ n)) (M:I≠x.q) (O:J≠x.q):
  H_ h_ 84 #[i_ (c_ ⟨I,0,b_⟩),i_ (c_ ⟨J,0,b_⟩)] w λe w'=>e=k_ (J_ #[])/\gO w p pow xs mb (aq af.name ⟨x.f.name,x.f.data.take n,min x.f.safe n⟩ (xs.map (·.f))) w':=by
 obtain⟨A,c,K⟩:=(h.files x hx).form;have D:=(h.files x hx).head;rw[K]at D;have j:=(h.files x hx).row;rw[K]at j;have V:=qb j;have c0:w.cell? ⟨x.q,0,b_⟩=c_ (a_ A x.f.data.length c):=by simp[E_,D]
 have c1:w.cell? ⟨x.q,1,b_⟩=c_ (e_ d_ x.f.safe):=by simp[E_,D]
 have f0:w.frozen? ⟨x.q,0,b_⟩=false:=by simp[JW,D]
 have f1:w.frozen? ⟨x.q,1,b_⟩=false:=by simp[JW,D]
 have av:=λW=>xC A x.f.data.length c n W O_
 have X:min (x.f.safe:Int) (n:Int)=((min x.f.safe n:Nat):Int):=by omega
 have HD:=Z_ (λW hW=>uW h hx K n hn W hW);have Y:x.q≠I:=λe=>M e.symm
 have Z:x.q≠J:=λe=>O e.symm
 clear K D h j;go_enter Tryz.func84,Tryz.ntmps84;go_wp2_with fail
 go_region
 go_wp2_with fail
 go_region
 go_end0
 refine⟨rfl,HD.o _ ⟨1,1,?_⟩⟩;have U:(if n<x.f.safe then(n:Int)else(x.f.safe:Int))=((min x.f.safe n:Nat):Int):=by split<;>omega
 rw[U];rfl
theorem kY{st:St}{n:Int}(h:bH st s=.error n):aF st s m=(st,n):=by unfold aF;rw[h]
theorem eR{st:St}{f:af}(h:bH st s=.ok f)(hm:m<0\/(f.data.length:Int)<m):aF st s m=(st,12):=by unfold aF;rw[h];simp only[];rw[G_ hm]
theorem ji{st:St}{f:af}(h:bH st s=.ok f)(hm:n<=f.data.length):aF st s n=cT st (aq af.name ⟨f.name,f.data.take n,min f.safe n⟩ st.files):=by
 unfold aF;rw[h];simp only[];rw[I_ O_];rfl
theorem ka(w:j_)(p:Nat)(st:St)(F:Nat->Prop)(h:Jw w p st F)(s:ByteArray)(hs:s.size<=9223372036854775807)(a2:st.aa<=9223372036854775807)(m:Int):
  H_ h_ 45 #[i_ (c_ ⟨p,0,b_⟩),g_ s,e_ d_ m] w (b9 w p F (aF st s.data.toList m)):=by
 have h':=h;obtain⟨xs,mb,Z,Y,rfl⟩:=h;have bm:p<w:=F_ Y.head;have K:=Z_ Y;clear Y;have ad:=Z_ Z;clear Z;have HS:=Z_ h';clear h';obtain⟨r,hr⟩:=N_ (aF st s.data.toList m);rw[<-hr];have HR:=Z_ hr;clear hr;have M:n_ w w (w.alloc (f_ #[e_ d_ m] 3)):=(JG _ w).alloc L_ _;have U:=Z_ (K.o.below M);go_enter Tryz.func45,Tryz.ntmps45;go_wp2_with fail;refine(kG s hs _ p st.aa xs mb U.o).mono ?_;intro e w1 j;obtain rfl:=j.1;rcases mV ad.o s.data.toList j with⟨n,he,ak,rfl⟩|⟨x,he,hx,ba,bb,bd,rfl⟩
 ·have HE:=Z_ (HR.o.trans (kY he))
  have hq:(n !=0)=true:=by simpa using ak
  have bf:=Z_ M;clear j he ak M;go_wp2;go_ret;rw[HE.o];exact b9.same HS.o (bf.o.alloc (by simp) _)
 have hb:n_ w w ((w.alloc (f_ #[e_ d_ m] 3)).alloc (f_ #[i_ (c_ ⟨x.q,0,b_⟩)] 101)):=M.alloc (by simp) _;have HB:=Z_ hb;have V:=Z_ (K.o.below hb);obtain⟨A,c,hv⟩:=(K.o.files x hx).form;have bn:x.q<w:=F_ (K.o.files x hx).head;have hh:=(V.o.files x hx).head;rw[hv]at hh;have c0:((w.alloc (f_ #[e_ d_ m] 3)).alloc (f_ #[i_ (c_ ⟨x.q,0,b_⟩)] 101)).cell? ⟨x.q,0,b_⟩=c_ (a_ A x.f.data.length c):=by simp[E_,hh]
 have hlen:x.f.data.length<=9223372036854775807:=by
  have X:=(K.o.files x hx).row;rw[hv]at X;have:=qb X;omega
 have HE:=Z_ he;clear j he ba bb bd hb M hv hh U;by_cases I:m<0
 ·have D:=Z_ (HR.o.trans (eR HE.o (.inl I)))
  have hd:decide (m<0)=true:=by simpa using I
  go_wp2_with fail
  go_quiet (fail)
  go_wp2;go_ret;rw[D.o];exact b9.same HS.o (below_drewN HB.o _)
 have hd:decide (m<0)=false:=by simpa using I
 by_cases O:(x.f.data.length:Int)<m
 ·have D:=Z_ (HR.o.trans (eR HE.o (.inr O)))
  have bg:decide ((x.f.data.length:Int)<m)=true:=by simpa using O
  go_wp2_with fail
  go_quiet (fail)
  go_wp2;go_ret;rw[D.o];exact b9.same HS.o (below_drewN HB.o _)
 obtain⟨n,rfl⟩:∃n:Nat,m=n:=⟨m.toNat,by omega⟩;have hn:n<=x.f.data.length:=by omega
 have bg:decide (x.f.data.length<n)=false:=by simp;omega
 have D:=Z_ (HR.o.trans (ji HE.o hn));clear I O;go_wp2_with fail
 go_quiet (fail)
 have J:=Z_ (V.o.drewN nq);have av:=Z_ (below_drewN HB.o nq);by_cases hz:st.aa=0
 ·have a1:cT st (aq af.name ⟨x.f.name,x.f.data.take n,min x.f.safe n⟩ st.files)=(st,13):=by unfold cT;rw[G_ hz]
  rw[hz]at J;have bj:=Z_ (D.o.trans a1);clear hz a1 D;go_wp2_with fail;refine(gC _ p xs mb J.o _).mono ?_;rintro e w1 ⟨rfl,rfl⟩;go_wp2;go_ret;rw[bj.o];exact b9.same HS.o av.o
 have HZ:=Z_ hz;clear hz;go_wp2_with fail;refine(pR _ p st.aa xs mb J.o HZ.o a2 _ (λw'=>b9 w p (ek p mb xs) r (k_ (e_ d_ 0)) w') (λw1 h1 k1 s1=>?_)).mono ?_
 ·have e0:=eh (ob:=f_ #[i_ (c_ ⟨x.q,0,b_⟩)] 101) (fg w (e_ d_ (n:Int)) 3)
  have e1:=fg (w.alloc (f_ #[e_ d_ (n:Int)] 3)) (i_ (c_ ⟨x.q,0,b_⟩)) 101;simp only[JQ]at e1;refine(sJ w1 p (dec st.aa) xs mb h1 x hx n hn (w+1) w ((k1.cell (p:=⟨_,_,_⟩) (by first|omega|(simp;done)|(simp;omega)) (by first|omega|(simp;done)|(simp;omega))).trans e1) ((k1.cell (p:=⟨_,_,_⟩) (by first|omega|(simp;done)|(simp;omega)) (by first|omega|(simp;done)|(simp;omega))).trans e0) O_ O_).mono ?_;rintro e w2 ⟨rfl,hd⟩;rw[<-ad.o]at hd;rw[D.o];exact⟨rfl,b9.G9 HZ.o av.o J.o k1 hd⟩
 rintro e w1 ⟨rfl,j⟩;have bk:=Z_ j;clear j;go_wp2;go_ret;exact bk.o
theorem yU{W3 U:j_}{xs:List ay}{m:Nat}(h:cC w p pow xs mb)(a b:List UInt8){x:ay}(hx:x∈xs)(a1:bT x=a)(hW:W.heap=w.heap)(ho:W.os=w.os)(ht:W.tape=w.tape)(ad:W.output=w.output)
  (I:w3.ownsMap h_ 9 bJ mb n ((jI xs).del (.string a))) (Z:W.grownBy w3 (c_ mb))
  (V:W3.heap=w3.heap) (a2:W3.os=w3.os) (ba:W3.tape=w3.tape) (ak:W3.output=w3.output)
  (J:U.ownsMap h_ 9 bJ mb m (((jI xs).del (.string a)).put (.string b) (.lit (.int d_ x.q)))) (K:W3.grownBy U (c_ mb)):
  gO w p pow xs mb (aq af.name ⟨b,x.f.data,x.f.safe⟩ (an af.name a (xs.map (·.f)))) U:=by
 obtain⟨bm,bn,h3,k3,g3⟩:=rL h a hW ho ht ad I Z;have av:w3.grownBy U (c_ mb):=⟨K.os.trans a2,K.tape.trans ba,K.output.trans ak,by have:=K.size;rw[V]at this;exact this,λk j D=>by have:=K.block k (by rw[V];exact j) D;rw[V]at this;exact this⟩;have M:w.grownBy w3 (c_ mb):=⟨Z.os.trans ho,Z.tape.trans ht,Z.output.trans ad,by have:=Z.size;rw[hW]at this;exact this,λk j D=>by have:=Z.block k (by rw[hW];exact j) D;rw[hW]at this;exact this⟩;rw[zO]at I J;have hD:=h.drop a I M;have X:∀k,k<w3.heap.size->k≠mb->U.heap[k]?=w3.heap[k]?:=λk j D=>av.block k j (λe=>D (by cases e;rfl))
 have bb:∀k,k<w.heap.size->k≠mb->w3.heap[k]?=w.heap[k]?:=λk j D=>M.block k j (λe=>D (by cases e;rfl))
 have hf:=h.files x hx;have O:=h.pf x hx;have bd:aP ⟨⟨b,x.f.data,x.f.safe⟩,x.q,x.v⟩=aP x:=rfl;have bf:∀k∈aP x,U.heap[k]?=w.heap[k]?:=λk j=>by
  have h1:=hf.lt k j;have h2:k≠mb:=λe=>O.2.1 (e▸j)
  rw[X k (by have:=M.size;omega) h2,bb k h1 h2]
 have Y:du U x:=hf.block bf;have hp:=F_ hD.head;have h4:cC U p pow (aq bT ⟨⟨b,x.f.data,x.f.safe⟩,x.q,x.v⟩ (an bT a xs)) mb:=by
  refine hD.put ⟨⟨b,x.f.data,x.f.safe⟩,x.q,x.v⟩ ⟨Y.head,Y.row,Y.safe⟩ O.2.2 (n:=m) ?_ (X p hp h.pm) (λy hy _ k j=>X k ((hD.files y hy).lt k j) (λe=>(hD.pf y hy).2.1 (e▸j))) ?_
  ·rw[<-ug];exact J
  intro k j;rw[bd]at j;refine⟨λe=>O.1 (e▸j),λe=>O.2.1 (e▸j),λy hy _ bg=>?_⟩;obtain⟨bj,bk⟩:=cq.1 hy;exact h.apart x hx y bj (λe=>bk (by rw[<-e,a1])) k j bg
 refine⟨_,?_,h4,((Kept.refl _ w).grown M (λk e=>by cases e;exact .inl (.inr (.inl rfl)))).grown av (λk e=>by cases e;exact .inl (.inr (.inl rfl))),?_⟩
 ·rw[fX (key:=bT) (key':=af.name) ay.f (λ_=>rfl),lz (key:=bT) (key':=af.name) ay.f (λ_=>rfl)]
 rintro k (rfl|rfl|⟨y,hy,j⟩)
 ·exact .inl (.inl rfl)
 ·exact .inl (.inr (.inl rfl))
 rcases cP.1 hy with rfl|⟨h1,h2⟩
 ·exact .inl (.inr (.inr ⟨x,hx,j⟩))
 exact .inl (.inr (.inr ⟨y,(cq.1 h1).1,j⟩))
theorem wY(w:j_)(p:Nat)(pow:Int)(xs:List ay)(mb:Nat)(h:cC w p pow xs mb)(bg:xs.length<2147483648)(bf ba bx bb:Nat)(a b:ByteArray)(ha:a.size<=9223372036854775807)(hb:b.size<=9223372036854775807)(x:ay)(hx:x∈xs)(O:bT x=a.data.toList)
  (U:w.cell? ⟨bf,0,b_⟩=c_ (i_ (c_ ⟨p,0,b_⟩))) (bj:w.cell? ⟨ba,0,b_⟩=c_ (.string a)) (V:w.cell? ⟨bx,0,b_⟩=c_ (i_ (c_ ⟨x.q,0,b_⟩))) (X:w.cell? ⟨bb,0,b_⟩=c_ (.string b)):
  H_ h_ 155 #[i_ (c_ ⟨bf,0,b_⟩),i_ (c_ ⟨ba,0,b_⟩),i_ (c_ ⟨bx,0,b_⟩),i_ (c_ ⟨bb,0,b_⟩)] w λe w'=>e=k_ (J_ #[])/\gO w p pow xs mb (aq af.name ⟨b.data.toList,x.f.data,x.f.safe⟩ (an af.name a.data.toList (xs.map (·.f)))) w':=by
 have Y:w.cell? ⟨p,0,b_⟩=c_ (.map (c_ mb)):=by simp[E_,h.head]
 have Z:w.drew.ownsMap h_ 9 bJ mb xs.length (jI xs):=h.map;have nm:∀K:Nat,∀v,w.cell? ⟨K,0,b_⟩=c_ v->K≠mb:=λK v hv e=>by
  obtain⟨es,clock,hm,_⟩:=h.map;rw[e]at hv;simp[E_,hm]at hv
 have m0:=nm _ _ U;have m2:=nm _ _ V;have m3:=nm _ _ X;have mp:=nm _ _ Y;clear nm;have HH:=Z_ h;clear h;have av:=Z_ O;clear O;go_enter Tryz.func155,Tryz.ntmps155;go_wp2_with fail
 go_still_tail 5,K_
 change MS _ _ _ _ _ w.drew;refine wpList_delete_own _ rfl _ _ 89 9 rfl 101 rY Lz bJ mb xs.length (jI xs) rfl Z _ (.string a.data.toList) rfl (iw a ha) ?_;intro w3 j ad;have M:=ad.grown;have D:∀k v,w.cell? ⟨k,0,b_⟩=c_ v->k≠mb->w3.cell? ⟨k,0,b_⟩=c_ v:=λk v hv a1=>M.cell (a:=⟨k,0,b_⟩) (by exact hv) (λe=>a1 (by cases e;rfl))
 have g0:=D _ _ U m0;have g2:=D _ _ V m2;have g3:=D _ _ X m3;have gp:=D _ _ Y mp;clear D ad Z;have a2:=Z_ M;clear M;have J:w3.drew.ownsMap h_ 9 bJ mb xs.length ((jI xs).del (.string a.data.toList)):=j;have bd:=Z_ j;clear j;go_wp2_with fail
 go_still_tail 6,K_
 change MS _ _ _ _ _ w3.drew;refine wpList_mapUpdate_own _ rfl _ _ _ 89 rfl 9 101 rY Lz bJ mb xs.length _ rfl J (by unfold JT;omega) _ _ (.string b.data.toList) rfl rfl (iw b hb) (.lit (.int d_ x.q)) [] rfl ?_;intro w4 I ak;have HD:=Z_ (yU HH.o a.data.toList b.data.toList hx av.o (W:=w.drew) rfl rfl rfl rfl bd.o a2.o (W3:=w3.drew) rfl rfl rfl rfl I ak);clear I ak J;go_wp2
 go_end0
 exact⟨rfl,HD.o⟩
theorem gw{st:St}{b:List UInt8}(h:bS a=o_\/bS b=o_):db st a b=(st,10):=by
 unfold db;rw[I_];rcases h with h|h<;>simp[h]
theorem nH{st:St}{b:List UInt8}(j:bS a=v_)(D:bS b=v_){n:Int}(h:bH st a=.error n):db st a b=(st,n):=by unfold db;rw[j,D,h];rfl
theorem kX{st:St}{b:List UInt8}(j:bS a=v_)(D:bS b=v_){f:af}(h:bH st a=.ok f):db st a b=cT st (aq af.name ⟨b,f.data,f.safe⟩ (an af.name a st.files)):=by unfold db;rw[j,D,h];rfl
theorem yV(w:j_)(p:Nat)(st:St)(F:Nat->Prop)(h:Jw w p st F)(a b:ByteArray)(ha:a.size<=9223372036854775807)(hb:b.size<=9223372036854775807)(bk:st.aa<=9223372036854775807)(X:st.files.length<2147483648):
  H_ h_ 140 #[i_ (c_ ⟨p,0,b_⟩),g_ a,g_ b] w (b9 w p F (db st a.data.toList b.data.toList)):=by
 have h':=h;obtain⟨xs,mb,Y,Z,rfl⟩:=h;have bB:p<w:=F_ Z.head;have bm:xs.length<2147483648:=by rw[Y]at X;simpa using X
 have av:=Z_ Z;clear Z;have a1:=Z_ Y;clear Y;have HS:=Z_ h';clear h';obtain⟨r,hr⟩:=N_ (db st a.data.toList b.data.toList);rw[<-hr];have HR:=Z_ hr;clear hr;have ad:n_ w w (((w.alloc (f_ #[i_ (c_ ⟨p,0,b_⟩)] 25)).alloc (f_ #[g_ a] 9)).alloc (f_ #[g_ b] 9)):=((((JG _ w).alloc L_ _).alloc (by simp) _).alloc (by simp;omega) _);have O:=Z_ ad;have a2:=Z_ (av.o.below ad);clear ad X;have I:=λW=>jS a W ha
 have J:=λW=>jS b W hb
 cases K:bS a.data.toList with
 |false=>
  rw[K]at I;have U:=Z_ (HR.o.trans (gw (.inl K)));clear J K;go_enter Tryz.func140,Tryz.ntmps140;go_wp2_with (go_at_call 85;refine(I _).mono ?_;rintro e V ⟨rfl,rfl⟩);go_ret;rw[U.o];exact b9.same HS.o O.o
 |true=>
  rw[K]at I;have ba:=Z_ K;clear K;cases M:bS b.data.toList with
  |false=>
   rw[M]at J;have U:=Z_ (HR.o.trans (gw (.inr M)));clear M;go_enter Tryz.func140,Tryz.ntmps140;go_wp2_with fail;refine(I _).mono ?_;rintro e V ⟨rfl,rfl⟩;go_wp2_with fail;refine(J _).mono ?_;rintro e V ⟨rfl,rfl⟩;go_wp2;go_ret;rw[U.o];exact b9.same HS.o O.o
  |true=>
   rw[M]at J;have bb:=Z_ M;clear M;go_enter Tryz.func140,Tryz.ntmps140;go_wp2_with fail;refine(I _).mono ?_;rintro e V ⟨rfl,rfl⟩;go_wp2_with fail;refine(J _).mono ?_;rintro e V ⟨rfl,rfl⟩;clear I J;go_wp2_with fail;refine(kG a ha _ p st.aa xs mb a2.o).mono ?_;intro e V j;obtain rfl:=j.1;rcases mV a1.o a.data.toList j with⟨n,he,bd,rfl⟩|⟨x,he,hx,bf,bn,bo,rfl⟩
   ·have U:=Z_ (HR.o.trans (nH ba.o bb.o he))
    have hq:(n !=0)=true:=by simpa using bd
    clear j he bd;go_wp2;go_ret;rw[U.o];exact b9.same HS.o (O.o.alloc (by simp;omega) _)
   have U:=Z_ (HR.o.trans (kX ba.o bb.o he));have ak:=O.o.alloc (by simp;omega) (f_ #[i_ (c_ ⟨x.q,0,b_⟩)] 101);have D:=Z_ (av.o.below ak);have bg:=Z_ ak;have bp:=Z_ bf;clear j he bf bn bo ak;by_cases hz:st.aa=0
   ·have bj:cT st (aq af.name ⟨b.data.toList,x.f.data,x.f.safe⟩ (an af.name a.data.toList st.files))=(st,13):=by unfold cT;rw[G_ hz]
    rw[hz]at D;have bt:=Z_ (U.o.trans bj);clear hz bj U;go_wp2_with fail;refine(gC _ p xs mb D.o _).mono ?_;rintro e V ⟨rfl,rfl⟩;go_wp2;go_ret;rw[bt.o];exact b9.same HS.o bg.o
   have HZ:=Z_ hz;clear hz;go_wp2_with fail;refine(sq _ p st.aa xs mb D.o HZ.o bk _ (λw'=>b9 w p (ek p mb xs) r (k_ (e_ d_ 0)) w') (λV h1 k1 s1=>?_)).mono ?_
   ·have e0:=eh (ob:=f_ #[i_ (c_ ⟨x.q,0,b_⟩)] 101) (eh (ob:=f_ #[g_ b] 9) (eh (ob:=f_ #[g_ a] 9) (fg w (i_ (c_ ⟨p,0,b_⟩)) 25)))
    have e1:=eh (ob:=f_ #[i_ (c_ ⟨x.q,0,b_⟩)] 101) (eh (ob:=f_ #[g_ b] 9) (fg (w.alloc (f_ #[i_ (c_ ⟨p,0,b_⟩)] 25)) (g_ a) 9));have e2:=eh (ob:=f_ #[i_ (c_ ⟨x.q,0,b_⟩)] 101) (fg ((w.alloc (f_ #[i_ (c_ ⟨p,0,b_⟩)] 25)).alloc (f_ #[g_ a] 9)) (g_ b) 9);have e3:=fg (((w.alloc (f_ #[i_ (c_ ⟨p,0,b_⟩)] 25)).alloc (f_ #[g_ a] 9)).alloc (f_ #[g_ b] 9)) (i_ (c_ ⟨x.q,0,b_⟩)) 101;simp only[JQ]at e1 e2 e3;refine(wY V p (dec st.aa) xs mb h1 bm w (w+1) (w.heap.size+1+1+1) (w.heap.size+1+1) a b ha hb x hx bp.o
     ((k1.cell (p:=⟨_,_,_⟩) (by first|omega|(simp;done)|(simp;omega)) (by first|omega|(simp;done)|(simp;omega))).trans e0) ((k1.cell (p:=⟨_,_,_⟩) (by first|omega|(simp;done)|(simp;omega)) (by first|omega|(simp;done)|(simp;omega))).trans e1)
     ((k1.cell (p:=⟨_,_,_⟩) (by first|omega|(simp;done)|(simp;omega)) (by first|omega|(simp;done)|(simp;omega))).trans e3) ((k1.cell (p:=⟨_,_,_⟩) (by first|omega|(simp;done)|(simp;omega)) (by first|omega|(simp;done)|(simp;omega))).trans e2)).mono ?_
    rintro e w2 ⟨rfl,hd⟩;rw[<-a1.o]at hd;rw[U.o];exact⟨rfl,b9.G9 HZ.o bg.o D.o k1 hd⟩
   rintro e V ⟨rfl,j⟩;have bx:=Z_ j;clear j;go_wp2;go_ret;exact bx.o
theorem Bc(w:j_):H_ h_ 48 #[a_ b_ 0 0] w λe w'=>e=k_ (a_ b_ 0 0)/\w=w':=by
 have j:=λ(W:j_)=>Lib.run_eql_slice_nil (P:=h_) W 24 5 b_ 0 0 0 0 J9
 go_enter Tryz.func48,Tryz.ntmps48;go_wp2;go_ret;exact⟨rfl,rfl⟩
theorem qC(a:Kb)(n c:Nat)(l:List UInt8)(B:Nat)(w:j_)(I:bw w B (a_ (c_ a) n c) (l_ l))(V:B<=w)(X:l.length<=2147483648):
  H_ h_ 48 #[a_ (c_ a) n c] w λe w'=>∃u,e=k_ u/\Par.Own w' w 5 u (l_ l)/\n_ w w w':=by
 have j:=Par.Own.new w w 5 #[] [] rfl L_ (by simp);have J:n_ w w (w.alloc (f_ #[] 5)):=(JG _ w).alloc L_ _;have K:=I.below (J.mono V);clear I;have O:=λ(W:j_)=>Lib.run_eql_slice_nil (P:=h_) W 24 5 (c_ a) n c 0 0 J9
 go_enter Tryz.func48,Tryz.ntmps48;go_wp2_with (at_builtin;refine aE _ rfl _ _ _ rfl w 5 _ fD _ _ rfl j _ _ _ rfl K (aZ _) ?c1 ?c2 ?_)
 case c1=>rw[t_];simp only[JP];omega
 case c2=>first|omega|(simp;done)|(simp;omega)
 intro v3 w3 D M U;go_wp2;go_ret;exact⟨_,rfl,by simpa using D,dW J j M (by simp)⟩
theorem sU(v:m_)(l:List UInt8)(b:Nat)(w:j_)(h:w.ownsRow b 5 1 v l.length (l_ l))(I:l.length<=2147483648):
  H_ h_ 48 #[v] w λe w'=>∃u,e=k_ u/\Par.Own w' w 5 u (l_ l)/\n_ w w w':=by
 have j:Par.Own w b 5 v (l_ l):=by unfold Par.Own;rw[t_];exact h
 have D:=j.dH;rcases h.2 with⟨rfl,h0⟩|⟨g,cap,cur,rfl,_⟩
 ·refine(Bc w).mono ?_
  rintro e w' ⟨rfl,rfl⟩;have:l=[]:=JH h0;subst this;exact⟨_,rfl,Par.Own.nil _ _ _,JG _ _⟩
 exact qC _ _ _ l _ w D L_ I
def kz(w:j_)(r:Except Int af)(e:Ending)(w':j_):Prop:=
 n_ w.heap.size w w'/\match r with
  | .error n=>e=k_ (J_ #[a_ b_ 0 0,e_ d_ n])
  | .ok f=>∃u,e=k_ (J_ #[u,e_ d_ 0])/\Par.Own w' w.heap.size 5 u (l_ f.data)
theorem rK(w:j_)(p:Nat)(st:St)(F:Nat->Prop)(h:Jw w p st F)(s:ByteArray)(hs:s.size<=9223372036854775807)(hm:∀f∈st.files,f.data.length<=2147483648):
  H_ h_ 13 #[i_ (c_ ⟨p,0,b_⟩),g_ s] w (kz w (bH st s.data.toList)):=by
 obtain⟨xs,mb,K,M,rfl⟩:=h;have I:=Z_ M;clear M;have O:=Z_ K;clear K;have HM:=Z_ hm;clear hm;obtain⟨r,hr⟩:=N_ (bH st s.data.toList);rw[<-hr];have HR:=Z_ hr;clear hr;go_enter Tryz.func13,Tryz.ntmps13;go_wp2_with fail;refine(kG s hs w p st.aa xs mb I.o).mono ?_;intro e w1 j;obtain rfl:=j.1;rcases mV O.o s.data.toList j with⟨n,he,U,rfl⟩|⟨x,he,hx,V,X,Y,rfl⟩
 ·have Z:=Z_ (HR.o.trans he)
  have hq:(n !=0)=true:=by simpa using U
  clear j he U;go_wp2
  go_ret2
  rw[Z.o];exact⟨JG _ _,rfl⟩
 have Z:=Z_ (HR.o.trans he);obtain⟨A,c,hv⟩:=(I.o.files x hx).form;have hh:=(I.o.files x hx).head;have D:=(I.o.files x hx).row;rw[hv]at hh D;have c0:w.cell? ⟨x.q,0,b_⟩=c_ (a_ A x.f.data.length c):=by simp[E_,hh]
 have ad:x.f.data.length<=2147483648:=HM.o x.f (by rw[O.o];exact Kw hx);have ak:=Z_ D;clear j he V X Y hv hh D;go_wp2_with fail;refine(sU _ x.f.data 0 w ak.o ad).mono ?_;rintro e w2 ⟨u,rfl,J,hb⟩;have HO:=Z_ J;clear J;go_wp2
 go_ret2
 rw[Z.o];exact⟨hb,u,rfl,HO.o⟩
