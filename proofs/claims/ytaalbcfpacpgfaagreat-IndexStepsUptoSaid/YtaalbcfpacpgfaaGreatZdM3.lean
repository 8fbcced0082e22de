import Derived.Shelf.SlIter.Nil
import Derived.Shelf.SortM.Plain
import Derived.Shelf.SortM.SortNone
import Derived.Ground.GgzProg
import Derived.Ground.SlgmProg
import Derived.Test.YtaalbcfpacpgfaaGreatProg
import Derived.RangeFuncNested
import Derived.RangeFuncBound
import Derived.RangeFuncCalls
import Derived.RangeFuncLeaves
import Derived.RangeFuncFrom
import Derived.Shelf.Abstract
import Derived.OwnWalkIn
import Derived.TacticsInMore
import Derived.LoopNIn
import Derived.LoopIn
import Derived.OrdersIn
import Derived.RangeFuncWrites
import Derived.Maps.OwnIn
import Derived.Lib.SmallJoins
import Derived.Lib.SlBytesConst
import Derived.HandedShaped
import Derived.Deep.RegionWith
import Derived.Test.YtaalbcfpacpgfaaGreatZdM1
set_option linter.all false
set_option maxHeartbeats 16000000
set_option maxRecDepth 100000
open Array renaming replicate->MP
open Bool renaming false->o_,true->v_
open Go renaming Act->Mt,Addr->Kb,Calls->H_,KeepsFrom->ML,Oper->L8,Operand->MA,Program->K6,TypeId->Ki,Value->m_,World->j_,bytesBefore->Kk,execOp->Ld,maxLen->JT,strKeys->MZ,undef->q_,wpOpIn->MU
open Go.Builtin renaming append_->L0
open Go.Code renaming region->MW
open Go.Ending renaming returned->k_
open Go.Fence renaming wide->JK
open Go.Instr renaming mapUpdate->MY
open Go.IntKind renaming i64->d_
open Go.Lib renaming byteCells->l_
open Go.Maps renaming size->MV
open Go.Obj renaming cells->f_
open Go.Op renaming fieldAddr->Nb
open Go.Program renaming elem->K7
open Go.Proofs.Tryz renaming prog->h_
open Go.Proofs renaming encStr->M9
open Go.Region renaming ready->K9,wanted->MO
open Go.Result renaming andThen->LK
open Go.RowKit renaming Below->n_
open Go.Shelf renaming Ren->Na
open Go.Value renaming bool->u_,int->e_,pointer->i_,slice->a_,string->g_
open Go.World renaming cell?->E_
open Nat renaming reduceAdd->KR,reduceSub->Lc
open Option renaming none->b_,some->c_
namespace Go.Proofs
open Go.Shelf
def Tryz.oX:Na:=⟨fun|7=>112|10=>143|n=>n,fun|23=>89|26=>9|3=>101|28=>167|0=>0|27=>166|33=>137|4=>4|n=>n,fun|n=>n⟩
theorem Tryz.Ae:Go.Proofs.SlLaysZ.n7 h_ Tryz.oX:={
 mixed:=by kernel_rfl
 f7:=⟨Tryz.f112.name,by decide,Tryz.func112.trans (J7 c_ K_)⟩
 f10:=⟨Tryz.f143.name,by decide,Tryz.func143.trans (J7 c_ K_)⟩
 t0:=Tryz.underlying0
 a0:=Tryz.isAgg0
 z0:=Tryz.sizeOf0
 v0:=Tryz.zeroValue0
 t4:=Tryz.underlying4
 a4:=Tryz.isAgg4
 z4:=Tryz.sizeOf4
 v4:=Tryz.zeroValue4
 t23:=Lz
 a23:=Tryz.isAgg89
 z23:=Tryz.sizeOf89
 v23:=Tryz.zeroValue89
 t26:=KH
 a26:=Tryz.isAgg9
 z26:=Tryz.sizeOf9
 v26:=Tryz.zeroValue9
 t27:=Tryz.underlying166
 a27:=Tryz.isAgg166
 z27:=Tryz.sizeOf166
 v27:=Tryz.zeroValue166
 t28:=Tryz.underlying167
 a28:=Tryz.isAgg167
 z28:=Tryz.sizeOf167
 v28:=Tryz.zeroValue167
 t33:=Tryz.underlying137
 a33:=Tryz.isAgg137
 z33:=Tryz.sizeOf137
 v33:=Tryz.zeroValue137}
def Tryz.oW:Na:=⟨fun|7=>106|10=>134|n=>n,fun|23=>112|26=>9|3=>55|28=>167|0=>0|27=>166|33=>137|4=>4|n=>n,fun|n=>n⟩
theorem Tryz.Ac:Go.Proofs.SlLaysZ.n7 h_ Tryz.oW:={
 mixed:=by kernel_rfl
 f7:=⟨Tryz.f106.name,by decide,Tryz.func106.trans (J7 c_ K_)⟩
 f10:=⟨Tryz.f134.name,by decide,Tryz.func134.trans (J7 c_ K_)⟩
 t0:=Tryz.underlying0
 a0:=Tryz.isAgg0
 z0:=Tryz.sizeOf0
 v0:=Tryz.zeroValue0
 t4:=Tryz.underlying4
 a4:=Tryz.isAgg4
 z4:=Tryz.sizeOf4
 v4:=Tryz.zeroValue4
 t23:=Mw
 a23:=Tryz.isAgg112
 z23:=Tryz.sizeOf112
 v23:=Tryz.zeroValue112
 t26:=KH
 a26:=Tryz.isAgg9
 z26:=Tryz.sizeOf9
 v26:=Tryz.zeroValue9
 t27:=Tryz.underlying166
 a27:=Tryz.isAgg166
 z27:=Tryz.sizeOf166
 v27:=Tryz.zeroValue166
 t28:=Tryz.underlying167
 a28:=Tryz.isAgg167
 z28:=Tryz.sizeOf167
 v28:=Tryz.zeroValue167
 t33:=Tryz.underlying137
 a33:=Tryz.isAgg137
 z33:=Tryz.sizeOf137
 v33:=Tryz.zeroValue137}
def Tryz.lW:Na:=⟨fun|6=>105|8=>132|9=>133|11=>152|13=>154|12=>153|23=>170|24=>171|14=>161|15=>162|16=>163|17=>164|18=>165|19=>166|20=>167|21=>168|22=>169|25=>187|26=>188|27=>189|28=>190|29=>191|30=>192|31=>202|n=>n,fun|26=>9|28=>167|24=>73|0=>0|3=>3|37=>139|48=>93|50=>227|4=>4|40=>218|39=>217|45=>223|5=>5|9=>9|51=>237|55=>209|57=>246|58=>206|33=>137|n=>n,fun|n=>n⟩
theorem Tryz.tB:Go.Proofs.SlLaysZ.n6 h_ Tryz.lW:={
 mixed:=by kernel_rfl
 f6:=⟨Tryz.f105.name,by decide,Tryz.func105.trans (J7 c_ K_)⟩
 f8:=⟨Tryz.f132.name,by decide,Tryz.func132.trans (J7 c_ K_)⟩
 f11:=⟨Tryz.f152.name,by decide,Tryz.func152.trans (J7 c_ K_)⟩
 t0:=Tryz.underlying0
 a0:=Tryz.isAgg0
 z0:=Tryz.sizeOf0
 v0:=Tryz.zeroValue0
 t24:=Tryz.underlying73
 a24:=Tryz.isAgg73
 z24:=Tryz.sizeOf73
 v24:=Tryz.zeroValue73
 t26:=KH
 a26:=Tryz.isAgg9
 z26:=Tryz.sizeOf9
 v26:=Tryz.zeroValue9
 t28:=Tryz.underlying167
 a28:=Tryz.isAgg167
 z28:=Tryz.sizeOf167
 v28:=Tryz.zeroValue167
 i26:=by kernel_rfl}
def Tryz.xD:Na:=⟨fun|6=>133|8=>154|9=>153|19=>170|20=>171|21=>161|22=>162|23=>163|24=>164|25=>165|26=>166|27=>167|28=>168|29=>169|36=>187|31=>188|32=>189|37=>190|38=>191|39=>192|41=>202|n=>n,fun|27=>73|29=>9|3=>3|32=>139|26=>73|0=>0|44=>93|46=>227|4=>4|36=>218|35=>217|41=>223|5=>5|9=>9|53=>237|57=>209|63=>246|64=>206|n=>n,fun|n=>n⟩
theorem Tryz.AO:Go.Proofs.SlLaysM.n6 h_ Tryz.xD:={
 mixed:=by kernel_rfl
 f6:=⟨Tryz.f133.name,by decide,Tryz.func133.trans (J7 c_ K_)⟩
 f8:=Tryz.func154.trans (J7 c_ K_)
 f9:=⟨Tryz.f153.name,by decide,Tryz.func153.trans (J7 c_ K_)⟩
 f19:=Tryz.func170.trans (J7 c_ K_)
 f20:=Tryz.func171.trans (J7 c_ K_)
 f21:=⟨Tryz.f161.name,by decide,Tryz.func161.trans (J7 c_ K_)⟩
 f22:=⟨Tryz.f162.name,by decide,Tryz.func162.trans (J7 c_ K_)⟩
 f23:=⟨Tryz.f163.name,by decide,Tryz.func163.trans (J7 c_ K_)⟩
 f24:=⟨Tryz.f164.name,by decide,Tryz.func164.trans (J7 c_ K_)⟩
 f25:=⟨Tryz.f165.name,by decide,Tryz.func165.trans (J7 c_ K_)⟩
 f26:=⟨Tryz.f166.name,by decide,Tryz.func166.trans (J7 c_ K_)⟩
 f27:=⟨Tryz.f167.name,by decide,Tryz.func167.trans (J7 c_ K_)⟩
 f28:=⟨Tryz.f168.name,by decide,Tryz.func168.trans (J7 c_ K_)⟩
 f29:=⟨Tryz.f169.name,by decide,Tryz.func169.trans (J7 c_ K_)⟩
 f31:=Tryz.func188.trans (J7 c_ K_)
 f32:=Tryz.func189.trans (J7 c_ K_)
 f36:=⟨Tryz.f187.name,by decide,Tryz.func187.trans (J7 c_ K_)⟩
 f37:=⟨Tryz.f190.name,by decide,Tryz.func190.trans (J7 c_ K_)⟩
 f38:=⟨Tryz.f191.name,by decide,Tryz.func191.trans (J7 c_ K_)⟩
 f39:=⟨Tryz.f192.name,by decide,Tryz.func192.trans (J7 c_ K_)⟩
 f41:=⟨Tryz.f202.name,by decide,Tryz.func202.trans (J7 c_ K_)⟩
 t0:=Tryz.underlying0
 a0:=Tryz.isAgg0
 z0:=Tryz.sizeOf0
 v0:=Tryz.zeroValue0
 t3:=Lq
 a3:=Tryz.isAgg3
 z3:=Tryz.sizeOf3
 v3:=Tryz.zeroValue3
 t4:=Tryz.underlying4
 a4:=Tryz.isAgg4
 z4:=Tryz.sizeOf4
 v4:=Tryz.zeroValue4
 t5:=Tryz.underlying5
 a5:=Tryz.isAgg5
 z5:=My
 v5:=Tryz.zeroValue5
 t9:=KH
 a9:=Tryz.isAgg9
 z9:=Tryz.sizeOf9
 v9:=Tryz.zeroValue9
 t26:=Tryz.underlying73
 a26:=Tryz.isAgg73
 z26:=Tryz.sizeOf73
 v26:=Tryz.zeroValue73
 t27:=Tryz.underlying73
 a27:=Tryz.isAgg73
 z27:=Tryz.sizeOf73
 v27:=Tryz.zeroValue73
 t29:=KH
 a29:=Tryz.isAgg9
 z29:=Tryz.sizeOf9
 v29:=Tryz.zeroValue9
 t32:=Tryz.underlying139
 a32:=Tryz.isAgg139
 z32:=Tryz.sizeOf139
 v32:=Tryz.zeroValue139
 t35:=Tryz.underlying217
 a35:=Tryz.isAgg217
 z35:=Tryz.sizeOf217
 v35:=Tryz.zeroValue217
 t36:=Tryz.underlying218
 a36:=Tryz.isAgg218
 z36:=Tryz.sizeOf218
 v36:=Tryz.zeroValue218
 t41:=Tryz.underlying223
 a41:=Tryz.isAgg223
 z41:=Tryz.sizeOf223
 v41:=Tryz.zeroValue223
 t44:=Tryz.underlying93
 a44:=Tryz.isAgg93
 z44:=Tryz.sizeOf93
 v44:=Tryz.zeroValue93
 t46:=Tryz.underlying227
 a46:=Tryz.isAgg227
 z46:=Tryz.sizeOf227
 v46:=Tryz.zeroValue227
 t53:=Tryz.underlying237
 a53:=Tryz.isAgg237
 z53:=Tryz.sizeOf237
 v53:=Tryz.zeroValue237
 t57:=Tryz.underlying209
 a57:=Tryz.isAgg209
 z57:=Tryz.sizeOf209
 v57:=Tryz.zeroValue209
 t63:=Tryz.underlying246
 a63:=Tryz.isAgg246
 z63:=Tryz.sizeOf246
 v63:=Tryz.zeroValue246
 t64:=Tryz.underlying206
 a64:=Tryz.isAgg206
 z64:=Tryz.sizeOf206
 v64:=Tryz.zeroValue206}
end Go.Proofs
namespace Go.Proofs.YtaalbcfpacpgfaaGreat
open Go.RowKit Go.Maps Go.Sort Go.Shelf
variable{ss:List (List UInt8)}{n₀ n:Nat}{Ex:j_->Nat->Prop}
theorem Ed(m:Nat):AnyZ.SortsIn h_ Tryz.lW JK m:=
  ⟨λEN off cap ss W G j D=>Kg.2 (AnyM.slices_Sort_string Tryz.AO EN off cap ss W G j D),
   λp cap W=>Kg.2 (AnyM.slices_Sort_string_none Tryz.AO p cap W)⟩
theorem Dz(j:Option Nat)(W:j_):CallsIn JK 5 h_ 112 #[.map j] W λe w'=>e=k_ (.func (.func 143) #[] #[i_ (c_ ⟨W,0,b_⟩)])/\w'=W.alloc (f_ #[.map j] 89):=
 AnyZ.keys_in Tryz.Ae JK 5 trivial rfl j W
theorem zf{H:Type}(b O:Nat)(G:DataW H)(R:m_->Option (DataW H×List MemPlace))(w:j_)(D:w.ownsMap h_ 9 R b O G)(I:MV G<=JT)(j:MV G*16<=140737488355328):
  CallsIn JK 5 h_ 105 #[.func (.func 143) #[] #[i_ (c_ ⟨w,0,b_⟩)]] (w.alloc (f_ #[.map (c_ b)] 89)) λe w'=>∃(v:m_) (ss:List (List UInt8)),e=k_ v/\ss.Perm (MZ G)/\
   w'.ownsRow (w.alloc (f_ #[.map (c_ b)] 89)).heap.size 9 1 v ss.length ((ss.mergeSort (λx y=>decide (x<=y))).map M9)/\(v=a_ b_ 0 0↔ss=[])/\n_ (w.alloc (f_ #[.map (c_ b)] 89)).heap.size (w.alloc (f_ #[.map (c_ b)] 89)) w':=by
 have M:=D.lt;have J:SeqGives JK 2 h_ 143 #[i_ (c_ ⟨w,0,b_⟩)] M9 (λss=>ss.Perm (MZ G)) (MV G) (w.alloc (f_ #[.map (c_ b)] 89)):=
  AnyZ.keys_gives (ρ:=Tryz.oX) {Tryz.Ae with} JK _ trivial rfl O_ w b O G _ (by simp) (by simp) (by
   obtain⟨es,clock,U,X,hs,Y⟩:=D;exact⟨es,clock,(z_ _ _ b M).trans U,X,hs,Y⟩)
 exact AnyZ.sorted_in Tryz.tB JK 5 trivial trivial trivial trivial rfl O_ (Ed _) (enters_of Tryz.func133 K_ rfl) 143 #[i_ (c_ ⟨w,0,b_⟩)] trivial (enters_of Tryz.func143 K_ rfl) _ _ I j _ J
open Go.RowKit Go.Lib Go.Vfs Go.Par Go.Shelf
attribute [local go_sem] Oper.semAt_some
theorem jr:∀{a b:List UInt8},Kk a b=v_↔a<b
 |[],[]=>by simp[Kk]
 |[],_::_=>by simp[Kk]
 |_::_,[]=>by simp[Kk]
 |a::r,b::s=>by
  simp only[Kk,Bool.or_eq_true,Ku,LQ,beq_iff_eq,List.cons_lt_cons_iff,jr (a:=r) (b:=s)]
theorem uU{xs:List ay}(h:cQ bT xs)(hp:ss.Perm (xs.map bT)):ss.mergeSort (λx y=>decide (x<=y))=xs.map bT:=by
 apply List.Perm.eq_of_pairwise (le:=λa b:List UInt8=>a<=b)
 ·intro a b _ _ h1 h2;exact List.le_antisymm h1 h2
 ·have:=List.pairwise_mergeSort (le:=λx y:List UInt8=>decide (x<=y)) (λa b c h1 h2=>by simp at h1 h2⊢;exact List.le_trans h1 h2) (λa b=>by simp;exact List.le_total a b) ss
  exact this.imp (λh=>by simpa using h)
 ·rw[MH]
  exact h.imp (λ{a b} j=>List.not_lt.1 (λD=>by
   have h1:=jr.1 j;have h2:=jr.2 D;rw[fC j]at h2;cases h2))
 exact(List.mergeSort_perm ss _).trans hp
theorem xG(xs:List ay):MZ (jI xs)=xs.map bT:=by
 unfold MZ jI;simp only[Mv];rfl
theorem BF{I:j_}{v:m_}{xs:List ay}{base:Nat}(h:cQ bT xs)(hS:ss.Perm (MZ (jI xs)))(j:I.ownsRow base 9 1 v ss.length ((ss.mergeSort (λx y=>decide (x<=y))).map M9)):
  ∃A c,v=a_ A xs.length c/\c<=9223372036854775807/\xs.length<=c/\(0<xs.length->∃g cur,A=c_ ⟨g,0,b_⟩/\base<=g/\I.heap[g]?=c_ (f_ cur 9 (0,0))/\∀k (G:k<xs.length),cur[k]?=c_ (g_ ⟨(xs[k]'G).f.name.toArray⟩)):=by
 rw[xG]at hS;have J:ss.length=xs.length:=by have:=hS.length_eq;simpa using this
 rw[uU h hS]at j;rcases j.2 with⟨h1,h2⟩|⟨g,cap,cur,h1,h2,M,X,O,Y,U⟩
 ·have h0:xs.length=0:=by omega
  exact⟨b_,0,by rw[h1,h0],by omega,by omega,λhp=>by omega⟩
 refine⟨_,cap,by rw[h1,J],by simpa[JT]using O,by omega,λ_=>⟨g,cur,rfl,h2,M,λk G=>?_⟩⟩;have D:=J7 (·[k]?) U;simp only[Mb]at D;rw[G_ O_]at D;rw[MF]at D;rw[D];simp[G,bT]
def xU(n₀:Nat)(Ex:j_->Nat->Prop)(W W':j_):Prop:=
 W.heap.size<=W'.heap.size/\(∀k o,W.heap[k]?=c_ o->(k<n₀\/o.isCells=v_)->¬Ex W k->W'.heap[k]?=c_ o)/\(∀k,Ex W' k->Ex W k\/W.heap.size<=k)
theorem wB(n₀:Nat)(Ex:j_->Nat->Prop)(W:j_):xU n₀ Ex W W:=⟨Kh _,λ_ _ h _ _=>h,λ_ h=>.inl h⟩
theorem rk{A B C:j_}(h:xU n₀ Ex A B)(k:xU n₀ Ex B C):xU n₀ Ex A C:=
 ⟨Kj h.1 k.1,λi o hi hc hn=>k.2.1 i o (h.2.1 i o hi hc hn) hc (λhe=>by
  rcases h.2.2 i he with h1|h1
  ·exact hn h1
  ·have:=F_ hi;omega),λi hi=>by
  rcases k.2.2 i hi with h1|h1
  ·exact h.2.2 i h1
  right;have:=h.1;omega⟩
theorem Dy{w:j_}{xs:List ay}{G:Nat}(hm:w.ownsMap h_ 9 bJ G n (jI xs))(s:ByteArray)(hs:s.size<=9223372036854775807):
  (Instr.lookup 89 (.map (c_ G)) (.string s) o_).run h_ w=.ok (pg xs s.data.toList) w:=by
 obtain⟨v,ps,j,D⟩:=hm.lookup rY Lz (AY _) (zd:=.nil) (zp:=[]) rfl (iw s hs);rw[j];rw[C8]at D;unfold pg;cases I:aj bT s.data.toList xs with
 |none=>rw[I]at D;rw[pc D]
 |some x=>rw[I]at D;rw[rF D]
abbrev lZ (xs:List ay):={x:ay//x∈xs}
def Db{xs:List ay}(x:lZ xs):Array m_:=#[g_ ⟨x.1.f.name.toArray⟩,i_ (c_ ⟨x.1.q,0,b_⟩)]
theorem vu(xs:List ay)(k:Nat)(j:k<xs.length):xs.attach.take (k+1)=xs.attach.take k++[⟨xs[k],JB j⟩]:=by
 rw[y_ (by simpa using j)];simp
theorem qP(w:j_)(p:Nat)(pow:Int)(xs:List ay)(M:Nat)(h:cC w p pow xs M)(cr:xs.length<=100000)(b5:∀x∈xs,x.f.name.length<=100000)(O n₀:Nat)(b6:O<n₀)(ct:n₀<=w)(hc:w.heap[O]?=c_ (f_ #[i_ (c_ ⟨p,0,b_⟩)] 25 (0,0)))
  (hF:∀k,ek p M xs k->k<n₀) (Ex:j_->Nat->Prop) (bm:∀W,n_ w w W->∀k,Ex W k->k<w.heap.size/\k≠O/\¬ek p M xs k):
  SeqStopsK JK 6 h_ 111 #[i_ (c_ ⟨O,0,b_⟩)] (Db (xs:=xs)) (xU n₀ Ex) (λys=>ys=xs.attach) (λpre=>pre<+:xs.attach) xs.length w:=by
 intro l J Jx W hW hJ cu hY h0;have ba:cC W p pow xs M:=h.below hW;have bb:W.heap[O]?=c_ (f_ #[i_ (c_ ⟨p,0,b_⟩)] 25 (0,0)):=(hW.block O O_).trans hc;have cB:W.cell? ⟨O,0,b_⟩=c_ (i_ (c_ ⟨p,0,b_⟩)):=by simp[E_,bb]
 have cp:W.cell? ⟨p,0,b_⟩=c_ (.map (c_ M)):=by simp[E_,ba.head]
 have bn:MV (jI xs)=xs.length:=by unfold jI;simp[Maps.size_eq]
 have cv:JK.fn 112:=trivial;have cx:JK.fn 105:=trivial;have G:=Z_ ba;clear ba;have bo:=Z_ bn;clear bn;have HW:=Z_ hW;clear hW;have cb:=Z_ bb;clear bb;have U:=Z_ bm;clear bm;have bp:=Z_ hF;clear hF;clear hc h;refine callsIn_of_wp Tryz.func111 rfl trivial ?_ rfl;simp only[Tryz.ntmps111,KB,Jz,JP,KR,Lc,KF,KG,KP,KK,Kl,Ka];gi_wp2_with (first
  |(gi_at_call 112;refine(Dz _ _).mono ?_;rintro e w' ⟨rfl,rfl⟩)
  |(gi_at_call 105;refine(zf M xs.length (jI xs) bJ W G.o.map (by rw[bo.o];unfold JT;omega) (by rw[bo.o];omega)).mono ?_;rintro e X ⟨v,ss,rfl,hS,Z,bt,hb⟩;obtain⟨A1,c1,rfl,cE,cF,ak⟩:=BF G.o.rising hS Z;clear hS Z bt))
 have j:n_ W W X:=((JG _ W).alloc L_ _).trans (hb.mono (by simp));have cc:J [] X:=hJ _ _ _ b_ h0 ⟨j.os,j.tape,j.output,j.size,λk hk _=>j.block k hk⟩ (λr e=>by cases e);have bd:=Z_ j;have bx:=Z_ ak;clear hb j ak cB cp
 gi_loopw [12] (λi wr=>∃k:Nat,k<=xs.length/\i=.int d_ k/\xU n₀ Ex X wr/\J (xs.attach.take k) wr) (λi _=>xs.length - (intOf i).toNat)
 case atStart=>exact⟨0,by omega,rfl,wB _ _ _,cc⟩
 obtain⟨k,hk,rfl,I,bf⟩:=hrel;have cd:=HW.o.size;have cm:=bd.o.size;have D:n_ w w X:=HW.o.trans (bd.o.mono cd);by_cases bg:k<xs.length
 ·obtain⟨g,cur,rfl,hg,bB,av⟩:=bx.o O_
  have hold:∀i o,i<n₀->W.heap[i]?=c_ o->¬Ex X i->wr.heap[i]?=c_ o:=λi o hi ho hn=>I.2.1 i o ((bd.o.block i O_).trans ho) (.inl hi) hn
  have bN:=hold O _ b6 cb.o (λhe=>(U.o X D _ he).2.1 rfl);have bO:=hold p _ (bp.o p (.inl rfl)) G.o.head (λhe=>(U.o X D _ he).2.2 (.inl rfl));have bR:wr.ownsMap h_ 9 bJ M xs.length (jI xs):=by
   obtain⟨es,clock,hm,r⟩:=G.o.map;exact⟨es,clock,hold M _ (bp.o M (.inr (.inl rfl))) hm (λhe=>(U.o X D _ he).2.2 (.inr (.inl rfl))),r⟩
  have b0:wr.heap[g]?=c_ (f_ cur 9 (0,0)):=I.2.1 g _ bB (.inr rfl) (λhe=>by have:=(U.o X D _ he).1;simp at hg;omega);obtain⟨x,hx⟩:=N_ (xs[k]);have Y:x∈xs:=by rw[hx];exact JB bg
  have bj:=av k bg;rw[<-hx]at bj;have cB:wr.cell? ⟨O,0,b_⟩=c_ (i_ (c_ ⟨p,0,b_⟩)):=by simp[E_,bN]
  have cp:wr.cell? ⟨p,0,b_⟩=c_ (.map (c_ M)):=by simp[E_,bO]
  have cg:wr.cell? ⟨g,k,b_⟩=c_ (.string ⟨x.f.name.toArray⟩):=by simp[E_,b0,bj]
  have bk:=Dy bR ⟨x.f.name.toArray⟩ (by have:=b5 x Y;rw[Lib.size_eq];simp;omega);have a1:pg xs (⟨x.f.name.toArray⟩:ByteArray).data.toList=i_ (c_ ⟨x.q,0,b_⟩):=by
   have:aj bT (bT x) xs=c_ x:=G.o.rising.aj Y;unfold pg;rw[show(⟨x.f.name.toArray⟩:ByteArray).data.toList=bT x by simp[bT],this]
  rw[a1]at bk;have b1:(xs.attach.take k).length<xs.length:=by simp;omega
  obtain⟨fn,tmps,assign,body,hy,hR⟩:=hY (xs.attach.take k) ⟨x,Y⟩ wr bf b1;dsimp only[Db]at hy;have b2:Hid (xs.attach.take (k+1)=xs.attach.take k++[⟨x,Y⟩]):=Z_ (by rw[vu xs k bg];congr 2;exact Subtype.ext hx.symm);have cf:=Z_ I;clear I;clear hold bN bO bR b0 av bj a1 hx bB;gi_wp2;refine hR.mono ?_;rintro e W3 (⟨rfl,b3,ch⟩|⟨rfl,a2⟩)
  ·rw[<-b2.o]at b3
   gi_wp2;go_roundw
   case rel=>exact⟨k+1,by omega,by go_num,rk cf.o ch,b3⟩
   simp[intOf];omega
  rw[<-b2.o]at a2;gi_wp2;refine C_ (Mh rfl _ _ _) rfl ?_;exact⟨⟨_,rfl⟩,.inr ⟨_,List.take_prefix _ _,a2⟩⟩
 have ck:k=xs.length:=by omega
 have cl:J xs.attach wr:=by rw[ck]at bf;rwa[Kq (by simp)]at bf
 clear I;gi_wp2
 go_end0
 exact⟨⟨_,rfl⟩,.inl ⟨_,rfl,cl⟩⟩
attribute [local go_sem] Oper.semAt_some
theorem nM{F:Fence}{P:K6}(w:j_){ops:Array L8}{rest:List L8}{o:L8}{a:Mt}{Q:Exit->Mt->j_->Prop}(I:o.guard=b_)(s x:MA)(t:Ki)
  (J:o.op=.call {callee:=.builtin .append,args:=#[s,x],argTypes:=#[t,t]})
  (base:Nat) (e:Ki) (z:m_) (E:pP P t e z) (v:m_) (xs:List m_) (hs:a.eval s=v) (D:Par.Own w base e v xs)
  (B:Nat) (u:m_) (news:List m_) (hx:a.eval x=u) (M:bw w B u news) (h1:∀x∈news,x.oneCell'=v_)
  (O:xs.length+news.length<=2147483648) (j:base<=w)
  (h:∀v' w',Par.Own w' base e v' (xs++news)->w.grownBy w' v.ownBlock->(v'.ownBlock=v.ownBlock\/v'.ownBlock=c_ w.heap.size)->wpListIn F n P ops Q rest (a.put o.dst v') w'):wpListIn F n P ops Q (o::rest) a w:=by
 refine wpListIn_plain I λK U=>?_
 obtain⟨v',w',G,Y,Z,r3⟩:=AJ (P:=P) w base t o.type e z E v xs D B u news M h1 O j;unfold Oper.wpIn;refine⟨?_,?_⟩
 ·simp[Oper.about,J,resolve,Target.leads,MC]
 rw[Oper.semAt_plain F _ _ (by rw[J];intro c X;cases X)];simp[Ld,J,resolve,invoke,builtin,hs,hx,G,LK];exact U _ _ (h v' w' Y Z r3)
def strs(ls:List (List UInt8)):List m_:=ls.map λl=>g_ ⟨l.toArray⟩
theorem iW(ls:List (List UInt8)):(strs ls).length=ls.length:=by simp[strs]
theorem xH(a b:List (List UInt8)):strs (a++b)=strs a++strs b:=by simp[strs]
theorem DP(ls:List (List UInt8)):∀x∈strs ls,x.oneCell'=true:=by
 intro x hx;obtain⟨z,_,rfl⟩:=Lr.1 hx;rfl
theorem Jg:pP h_ 73 9 (g_ ⟨#[]⟩):=mT (b:=16) Tryz.underlying73 K_ (by decide) rfl
theorem vK(p:Nat)(w:j_):H_ h_ 66 #[i_ (c_ ⟨p,0,b_⟩)] w λe w'=>
  e=k_ (.func (.func 111) #[] #[i_ (c_ ⟨w,0,b_⟩)])/\w.alloc (f_ #[i_ (c_ ⟨p,0,b_⟩)] 25)=w':=by
 go_enter Tryz.func66,Tryz.ntmps66;go_wp2;go_ret;exact⟨rfl,rfl⟩
def ei{xs:List ay}(pre:List (lZ xs)):List (List UInt8):=pre.map λx=>x.1.f.name
theorem uA{xs:List ay}(pre:List (lZ xs))(x:lZ xs):ei (pre++[x])=ei pre++[x.1.f.name]:=by simp[ei]
theorem rA{xs:List ay}(pre:List (lZ xs)):(ei pre).length=pre.length:=by simp[ei]
theorem wH(xs:List ay):ei xs.attach=(xs.map (·.f)).map af.name:=by simp[ei]
def Jr(b:Nat)(W:j_)(k:Nat):Prop:=k=b\/∃v,W.cell? ⟨b,0,b_⟩=c_ v/\v.ownBlock=c_ k
theorem dq(W:j_)(l:Nat)(j:Obj){k:Nat}(h:k≠l):(W.putObj l j).heap[k]?=W.heap[k]?:=by
 rcases Nat.lt_or_ge k W with D|D
 ·exact(grownBy_putObj' W l j).block k D (λe=>h (by cases e;rfl))
 have h1:(W.putObj l j).heap.size=W.heap.size:=by simp[World.putObj]
 rw[Ly O_,Ly O_]
theorem jU{W:j_}{l:Nat}{o D:Obj}(M:n₀<=l)(h:W.heap[l]?=c_ o)(hc:o.isCells=o_)(J:∀k,Ex (W.putObj l D) k->Ex W k):xU n₀ Ex W (W.putObj l D):=by
 refine⟨by simp[World.putObj],λk ob j G hn=>?_,λk j=>.inl (J k j)⟩;have I:k≠l:=λe=>by
  subst e;rw[h]at j;cases j;rcases G with h1|h1
  ·omega
  rw[hc]at h1;cases h1
 rw[dq W l D I];exact j
theorem BE(w:j_)(p:Nat)(st:St)(F:Nat->Prop)(h:Jw w p st F)(av:st.files.length<=100000)(a2:∀f∈st.files,f.name.length<=100000):
  H_ h_ 79 #[i_ (c_ ⟨p,0,b_⟩)] w λe w'=>∃v,e=k_ v/\Par.Own w' w 9 v (strs (st.files.map af.name))/\n_ w w w':=by
 obtain⟨xs,mb,U,X,rfl⟩:=h;have bx:xs.length<=100000:=by rw[U]at av;simpa using av
 have ba:∀x∈xs,x.f.name.length<=100000:=λx hx=>a2 x.f (by rw[U];exact Kw hx)
 have Y:=X.lt;have a1:n_ w w ((w.alloc (f_ #[a_ b_ 0 0] 73)).alloc (f_ #[i_ (c_ ⟨p,0,b_⟩)] 25)):=((JG _ w).alloc L_ _).alloc (by simp) _;have Z:=X.below a1;have bO:=Boxed.new w 73 (a_ b_ 0 0);have bN:=Boxed.new (w.alloc (f_ #[a_ b_ 0 0] 73)) 25 (i_ (c_ ⟨p,0,b_⟩));rw[JQ]at bN;have bb:=bO.alloc (f_ #[i_ (c_ ⟨p,0,b_⟩)] 25);have ak:=qP _ p st.aa xs mb Z bx ba (w+1) (w+2) O_ (by simp) bN (λk j=>by have:=Y k j;omega) (Jr w) (λW hW k j=>by
  rcases j with rfl|⟨v,J,j⟩
  ·exact⟨by simp;omega,by omega,λho=>by have:=Y _ ho;omega⟩
  rw[hW.cell (p:=⟨w,0,b_⟩) (by simp;omega),bb.cell]at J;cases J;simp[Value.ownBlock]at j)
 have bB:=Z_ U;clear U av a2;have cf:=Z_ X;clear X Z;have bd:=Z_ ak;clear ak;have bR:=Z_ a1;clear a1;have cg:=Z_ Y;clear Y;clear ba;refine(Kg (n:=7)).1 ?_;refine callsIn_of_wp_marks Tryz.func79 rfl trivial ?_ rfl;simp only[Tryz.ntmps79,KB,Jz,JP,KR,Lc,KF,KG,KP,KK,Kl,Ka];gi_wp2_with (refine⟨trivial,?_⟩;gi_at_call 66;refine(Kg.2 (vK p _)).mono ?_;rintro e w1 ⟨rfl,rfl⟩)
 refine wpIn_rangeFunc_ownF (F:=JK) rfl O_ (gf:=111) (lb:=#[i_ (c_ ⟨w+1,0,b_⟩)]) rfl trivial (enters_of Tryz.func111 K_ rfl)
  bd.o rk ?hKb B_ (λ_=>rfl)
  (λpre W=>(∃v,Boxed W w 73 v/\W.ownsRow w 9 1 v (strs (ei pre)).length (strs (ei pre))/\True)/\n_ w w W)
  (λ_ _ _=>False)
  (OwnFrom.and (Go.Own.from (holdsRow_own w w 73 9 1 (λpre:List (lZ xs)=>(strs (ei pre)).length) (λpre=>strs (ei pre)) (λ_ _=>True)) _) (ownFrom_below L_ (by simp;omega)))
  (λ_ _ _ _ _ hs _ _=>hs)
  ⟨⟨_,bb,Mf _ _ _ _,trivial⟩,bR.o⟩
  (λx=>{tmps:=#[i_ (c_ ⟨p,0,b_⟩),q_,a_ b_ 0 0,i_ (c_ ⟨w,0,b_⟩),g_ ⟨x.1.f.name.toArray⟩,i_ (c_ ⟨p,0,b_⟩),.func (.func 111) #[] #[i_ (c_ ⟨w+1,0,b_⟩)],g_ ⟨x.1.f.name.toArray⟩,i_ (c_ ⟨x.1.q,0,b_⟩),q_,q_,q_,q_,q_],defers:=[]}) ?assign ?body ?done ?stop
 case hKb=>
  intro W l o o' hl bf b0 ch;simp only[JQ]at hl;refine jU O_ bf b0 (λk j=>?_);rcases j with rfl|⟨v,J,j⟩
  ·exact .inl rfl
  refine .inr ⟨v,?_,j⟩;rw[D_ (w:=W) (dq W l o' (by show w.heap.size≠l;omega))]at J;exact J
 case assign=>
  intro l x W K hK;dsimp only[Db];gi_wp2;exact hK
 case body=>
  rintro l pre x W ⟨⟨v,J,I,_⟩,hB⟩ hlen;have hc:=J.cell;have hz:=hB.size;have b1:=bw.new W 9 #[g_ ⟨x.1.f.name.toArray⟩] (strs [x.1.f.name]) rfl (by simp[strs,JT]);have bg:Par.Own (W.alloc (f_ #[g_ ⟨x.1.f.name.toArray⟩] 9)) w 9 v (strs (ei pre)):=I.alloc _;have ck:=J.not_row (by decide) I;have bj:=uA pre x;have bk:(strs (ei pre)).length+(strs [x.1.f.name]).length<=2147483648:=by rw[iW,iW,rA];simp;omega
  generalize ei pre=ns at*;have b2:=Z_ bj;clear bj;have bm:w.heap.size<=(W.alloc (f_ #[g_ ⟨x.1.f.name.toArray⟩] 9)).heap.size:=by simp;omega
  have b3:=Z_ bk;clear bk;have b5:=Z_ bm;clear bm;gi_wp2_with (gi_at_builtin;refine nM _ rfl _ _ 73 rfl w 9 _ Jg _ _ rfl bg _ _ _ rfl b1 (DP _) b3.o b5.o ?_)
  intro v' w1 G M bn;have O:w1.ownsRow w 9 1 v' ((strs ns).length+1) (strs ns++strs [x.1.f.name]):=by
   unfold Par.Own at G;rw[p_]at G;exact G
  clear G;obtain⟨g',cd,rfl⟩:=ownsRow_succ O;obtain⟨bo,bp,b6,cb,bt⟩:=J.appended (by decide) I hB.size L_ O M;have cl:=bo.cell;have cm:=bo.frozen;gi_wp2;refine⟨cb,?_,⟨_,bp,?_,trivial⟩,hB.trans bt⟩
  ·refine⟨bt.size,λk o j _ hn=>?_,λk j=>?_⟩
   ·have cc:=F_ j
    rw[JZ _ _ _ _ (λe=>hn (.inl e))];rw[M.block k (by simp;omega) (λe=>hn (.inr ⟨v,hc,e.symm⟩))];rw[z_ _ _ _ cc];exact j
   rcases j with rfl|⟨u,hu,j⟩
   ·exact .inl (.inl rfl)
   rw[bp.cell]at hu;cases hu;rcases bn with h1|h1
   ·rw[h1]at j;exact .inl (.inr ⟨v,hc,j⟩)
   rw[h1]at j;cases j;right;simp
  rw[b2.o,xH,p_];exact b6
 case done=>
  rintro D ys W hD rfl ⟨⟨v,J,I,_⟩,hB⟩ hK;have hc:=J.cell;have hz:=hB.size;gi_wp2;refine⟨by simp,.inl ⟨_,_,rfl,run_takeDeferred hK,?_⟩⟩;refine⟨_,results_tmp rfl _ _ _,v,rfl,?_,hB.trans (belowK_b (w:=w) L_ W D _ _ (by simp at hD;omega) hK rfl rfl)⟩;have hr:=ownsRow_putObj I (.deferred b_) hK rfl;rw[wH,<-bB.o]at hr;exact hr
 rintro D c pre W _ _ h _;exact h.elim
open Go.RowKit Go.Shelf
section
variable{P:K6}{ops:Array L8}{md:Region.Mode}{C:j_->Prop}{l n:Nat}
def gq(ops:List L8):Bool:=ops.all λo=>match o.op with| .defer _=>o_|_=>v_
variable{i:Nat}{o:L8}{a:Mt}{K:Mt->Prop}{K':Mt->j_->Prop}{Q' Q:Exit->Mt->j_->Prop}{w:j_}
theorem my{ops:List L8}(h:gq ops=v_)(j:ops[i]?=c_ o):∀c,o.op≠.defer c:=by
 intro c e;have:=LH.1 h o (List.mem_of_getElem? j);rw[e]at this;cases this
theorem pU(I:∀c,o.op≠.defer c)(hw:C w)(h:∀a w',C w'->K a->K' a w')(M:o.quiet P a C K):
  o.wpIn (JK.inRound l) n P a w K' Q':=by
 obtain⟨v,h1,h2⟩:=M;have j:=h1 w hw;unfold Oper.quietAt at j;unfold Oper.wpIn;refine⟨λ_ _=>trivial,?_⟩;rw[show(JK.inRound l).round=c_ l from rfl,Oper.semAt_some l a.eval o I];generalize(Ld a.eval o).run P w=r at*;cases r with
 |ok m w'=>
  cases m<;>simp only[Oper.quietUpon]at j<;>simp only[Oper.uponIn]
  case value u=>
   obtain⟨D,J⟩:=j;rw[D,J];exact h _ _ hw h2
  case skip=>
   obtain⟨D,J⟩:=j;rw[D,<-J];exact h _ _ hw h2
  case enter f args=>
   obtain⟨D,hc⟩:=j;rw[D];refine⟨(λh=>by cases h),CallsIn.inRound l (Kg.2 (hc.mono λe O ⟨he,G⟩=>?_))⟩;subst he;exact h _ _ G h2
 |halt x w'=>simp only[Oper.quietUpon]at j
theorem sL(G:gq ops.toList=v_)(hC:C w)(h:∀a w',C w'->K a->K' a w')(j:qOp P ops C i K a):
  MU (JK.inRound l) n P ops Q' i K' a w:=by
 unfold qOp at j;unfold MU;split
 ·rename_i D;simp only[D]at j;exact h _ _ hC j
 rename_i o D
 simp only[D]at j;split
 ·rename_i hw;simp only[hw,Ml]at j;exact pU (my G (by simpa using D)) hC h j
 rename_i hw;simp only[hw]at j;exact⟨λ_ _=>trivial,h _ _ hC j⟩
theorem wpAnyIn_of_quiet(D:gq ops.toList=v_){Q:Mt->Prop}(G:∀a w,C w->Q a->Q' .normal a w):∀(fuel:Nat) (j:Array Bool) (a:Mt) (w:j_),C w->
  wpAnyQ P md ops C Q fuel j a->wpAnyIn (JK.inRound l) n P md ops Q' fuel j a w
 |0,_,_,_,hw,h=>⟨h.1,G _ _ hw h.2⟩
 |fuel+1,_,_,_,hw,h=>⟨λh0=>G _ _ hw (h.1 h0),λi hi=>sL D hw (λJ w' I=>wpAnyIn_of_quiet D G fuel _ J w' I) (h.2 i hi)⟩
theorem cV{id:Nat}{lo:List L8}(hm:P.follows .mixedOrders=v_)(j:Region.lexB .any lo.toArray=v_)(D:gq lo=v_)
  (h:wpQuiet P lo.toArray (λw'=>∃n,w'=w.drewN n) (λG=>∀w',(∃n,w'=w.drewN n)->Q .normal G w') lo a):(MW id lo.toArray v_).wpIn (JK.inRound l) n P Q a w:=by
 simp only[Region.lexB,Ku]at j;refine wpIn_region_any hm (wpAnyIn_of_quiet (C:=λw'=>∃n,w'=w.drewN n) (by simpa using D) (Q:=λG=>∀w',(∃n,w'=w.drewN n)->Q .normal G w') (λ_ w' I h=>h w' I) _ _ _ _ ⟨1,rfl⟩ ?_);have:=wpAnyQ_lex (C:=λw'=>∃n,w'=w.drewN n) (md:=.any) j.1 lo.toArray.toList 0 (MP lo.toArray.size o_) a (by simp) (by simpa using j.2) (by simpa using h);simpa using this
theorem pO(Inv:Array Bool->Mt->j_->Prop)(j:∀L a w,Inv L a w->L.size=ops.size)
  (D:∀L a w,Inv L a w->K9 md ops L=[]->Q .normal a w)
  (I:∀L a w,Inv L a w->∀i∈K9 md ops L,MU (JK.inRound l) n P ops Q i (λJ w'=>Inv (L.setIfInBounds i v_) J w') a w):
  ∀(fuel:Nat) (L:Array Bool) (a:Mt) (w:j_),L.toList.count o_<=fuel->Inv L a w->wpAnyIn (JK.inRound l) n P md ops Q fuel L a w
 |0,L,a,w,O,h=>by
  have hr:K9 md ops L=[]:=by
   apply List.eq_nil_iff_forall_not_mem.2;intro i hi;obtain⟨hu,o,M,_⟩:=mem_ready.1 hi;have G:i<L.size:=by rw[j L a w h];exact(Li.1 M).1
   have:o_∈L.toList:=by
    have h2:L[i]=false:=by simpa[G]using hu
    rw[<-h2];exact Array.getElem_mem_toList G
   have:=List.count_pos_iff.2 this;omega
  exact⟨hr,D L a w h hr⟩
 |fuel+1,L,a,w,O,h=>by
  refine⟨D L a w h,λi hi=>wpOpIn_mono (λJ w' U=>pO Inv j D I fuel _ J w' ?_ U) (I L a w h i hi)⟩;obtain⟨hu,o,M,_⟩:=mem_ready.1 hi;have G:i<L.size:=by rw[j L a w h];exact(Li.1 M).1
  have h2:L[i]=false:=by simpa[G]using hu
  have X:o_∈L.toList:=by rw[<-h2];exact Array.getElem_mem_toList G
  have Z:=List.count_pos_iff.2 X;rw[Array.toList_setIfInBounds,List.count_set (by simpa using G)];have Y:L.toList[i]'(by simpa using G)=false:=by simpa using h2
  rw[Y];simp only[beq_self_eq_true,Ml];have h6:(if(v_==o_)=v_ then 1 else 0:Nat)=0:=rfl;omega
end
def ff(id:Nat):Code->Option (Array L8)
 | .region i ops _=>if i=id then c_ ops else b_
 | .seq a b=>match ff id a with
  |some c=>c_ c
  |none=>ff id b
 | .cond _ a b=>match ff id a with
  |some c=>c_ c
  |none=>ff id b
 | .loop c=>ff id c
 | .block _ c=>ff id c
 | .scope c=>ff id c
 | .rangeFunc _ _ a b=>match ff id a with
  |some c=>c_ c
  |none=>ff id b
 |_=>b_
noncomputable def dz:Array L8:=((Tryz.f25.body.bind (ff 11)).getD #[])
theorem uS:dz.size=16:=by kernel_rfl
theorem mY{L:Array Bool}{i j:Nat}{d:Bool}(hi:i<L.size):(L.setIfInBounds i v_).getD j d=if i=j then v_ else L.getD j d:=by
 by_cases h:i=j
 ·subst h
  simp[hi]
 simp[h]
theorem iS{a:Mt}{k j:Nat}{v:m_}(D:k<a.tmps.size):(a.put (c_ k) v).tmps.getD j q_=if k=j then v else a.tmps.getD j q_:=by
 by_cases h:k=j
 ·subst h
  simp[Act.put,D]
 simp[Act.put,h]
theorem ni(a:Mt)(d:Option Tmp)(v:m_):(a.put d v).tmps.size=a.tmps.size:=by cases d<;>simp[Act.put]
def dK(o:L8):Option Tmp×Op×List Nat×Bool:=(o.dst,o.op,(o.after.toList.filter (Region.binds .any)).map (·.on),o.guard.isNone)
theorem Hh:(dz[0]?).map dK=c_ (c_ 49,Op.load 25 (.tmp 7),[],v_):=by kernel_rfl
theorem Hi:(dz[1]?).map dK=c_ (c_ 50,Op.nilCheck (.tmp 49),[0],v_):=by kernel_rfl
theorem Hj:(dz[2]?).map dK=c_ (c_ 51,Nb 91 (.tmp 50) 0,[1],v_):=by kernel_rfl
theorem Hm:(dz[3]?).map dK=c_ (c_ 52,Op.load 89 (.tmp 51),[2],v_):=by kernel_rfl
theorem Hn:(dz[4]?).map dK=c_ (c_ 53,Op.move (.tmp 9),[],v_):=by kernel_rfl
theorem Ho:(dz[5]?).map dK=c_ (c_ 54,Op.move (.tmp 10),[],v_):=by kernel_rfl
theorem Hp:(dz[6]?).map dK=c_ (c_ 55,Op.nilCheck (.tmp 54),[5],v_):=by kernel_rfl
theorem Hq:(dz[7]?).map dK=c_ (c_ 56,Nb 105 (.tmp 55) 0,[6],v_):=by kernel_rfl
theorem Hr:(dz[8]?).map dK=c_ (c_ 57,Op.load 24 (.tmp 56),[7],v_):=by kernel_rfl
theorem Hs:(dz[9]?).map dK=c_ (c_ 58,Op.move (.tmp 12),[],v_):=by kernel_rfl
theorem Gw:(dz[10]?).map dK=c_ (c_ 59,Op.slice 24 (.tmp 57) b_ (c_ (.tmp 58)) b_,[8,9],v_):=by kernel_rfl
theorem Gx:(dz[11]?).map dK=c_ (c_ 60,Op.call {callee:=.value (.func 48),args:=#[.tmp 59],argTypes:=#[24]},[10],v_):=by kernel_rfl
theorem Gy:(dz[12]?).map dK=c_ (c_ 61,Op.move (.tmp 12),[],v_):=by kernel_rfl
theorem Gz:(dz[13]?).map dK=c_ (c_ 62,Op.build 105 #[(0,.tmp 60),(1,.tmp 61)],[11,12],v_):=by kernel_rfl
theorem GA:(dz[14]?).map dK=c_ (c_ 63,Op.box 105 (.tmp 62),[13],v_):=by kernel_rfl
theorem GB:(dz[15]?).map dK=c_ (b_,Op.mapUpdate 89 (.tmp 52) (.tmp 53) (.tmp 63),[3,4,14,11,0,1,2,3,4,5,6,7,8,9,10,11,12,13,14],v_):=by kernel_rfl
theorem lL{i:Nat}{d:Option Tmp}{op:Op}{dep:List Nat}(h:(dz[i]?).map dK=c_ (d,op,dep,v_)):∃o,dz[i]?=c_ o/\o.dst=d/\o.op=op/\o.guard=b_/\
  ∀L:Array Bool,i∈K9 .any dz L->∀j∈dep,L.getD j o_=true:=by
 cases I:dz[i]? with
 |none=>rw[I]at h;cases h
 |some o=>
  rw[I]at h;simp only[Option.map_some,dK,Lx,Mk]at h;refine⟨o,rfl,h.1,h.2.1,by simpa using h.2.2.2,λL hr j hj=>?_⟩;obtain⟨_,O,D,G⟩:=mem_ready.1 hr;rw[I]at D;cases D;rw[<-h.2.2.1]at hj;obtain⟨e,he,rfl⟩:=Lr.1 hj;obtain⟨J,M⟩:=List.mem_filter.1 he;exact G e (by simpa using J) M
def G5(pL mL q N len c2:Nat)(A2:Option Kb)(S:ByteArray):Nat->Option m_
 |0|1|2=>c_ (i_ (c_ ⟨pL,0,b_⟩))
 |3=>c_ (.map (c_ mL))
 |4=>c_ (g_ S)
 |5|6|7=>c_ (i_ (c_ ⟨q,0,b_⟩))
 |8=>c_ (a_ A2 len c2)
 |9|12=>c_ (e_ d_ N)
 |10=>c_ (a_ A2 N c2)
 |_=>b_
structure Ba(pL mL q N len c2 b7:Nat)(A2:Option Kb)(S:ByteArray)(W:j_)(Post:m_->j_->Prop)(Fin:j_->Prop)(L:Array Bool)(a:Mt)(w:j_):Prop where
 size:L.size=16
 nI:a.tmps.size=65
 f7:a.tmps.getD 7 q_=i_ (c_ ⟨b7,0,b_⟩)
 f9:a.tmps.getD 9 q_=g_ S
 f10:a.tmps.getD 10 q_=i_ (c_ ⟨q,0,b_⟩)
 f12:a.tmps.getD 12 q_=e_ d_ N
 kZ:∀i v,G5 pL mL q N len c2 A2 S i=c_ v->L.getD i o_=v_->a.tmps.getD (49+i) q_=v
 phase:(L.getD 11 o_=o_/\L.getD 13 o_=o_/\L.getD 14 o_=o_/\L.getD 15 o_=o_/\w=W)\/
  (L.getD 11 o_=v_/\L.getD 14 o_=o_/\L.getD 15 o_=o_/\Post (a.tmps.getD 60 q_) w/\(L.getD 13 o_=v_->a.tmps.getD 62 q_=.agg #[a.tmps.getD 60 q_,e_ d_ N]))\/
  (L.getD 11 o_=v_/\L.getD 13 o_=v_/\L.getD 14 o_=v_/\L.getD 15 o_=o_/\∃u w2,Post u w2/\w=w2.alloc (f_ #[u,e_ d_ N] 105)/\a.tmps.getD 63 q_=i_ (c_ ⟨w2.heap.size,0,b_⟩))\/
  ((∀j,j<16->L.getD j o_=v_)/\Fin w)
section
variable{pL mL q N len c2 b7:Nat}{A2:Option Kb}{S:ByteArray}{W:j_}{Post:m_->j_->Prop}{Fin:j_->Prop}{L:Array Bool}{a:Mt}{w:j_}
theorem Ba.steady(h:Ba pL mL q N len c2 b7 A2 S W Post Fin L a w){i:Nat}{v:m_}(M:G5 pL mL q N len c2 A2 S i=c_ v)(hi:i<13)(D:i≠11):Ba pL mL q N len c2 b7 A2 S W Post Fin (L.setIfInBounds i v_) (a.put (c_ (49+i)) v) w:=by
 have G:i<L.size:=by rw[h.size];omega
 have I:49+i<a.tmps.size:=by rw[h.nI];omega
 have g:∀j,j≠49+i->(a.put (c_ (49+i)) v).tmps.getD j q_=a.tmps.getD j q_:=λj hj=>by rw[iS I,I_ (λe=>hj e.symm)]
 have f:∀j d,j≠i->(L.setIfInBounds i v_).getD j d=L.getD j d:=λj d hj=>by rw[mY G,I_ (λe=>hj e.symm)]
 refine⟨by simp[h.size],by rw[ni];exact h.nI,?_,?_,?_,?_,λj u hu J=>?_,?_⟩
 ·rw[g 7 O_];exact h.f7
 ·rw[g 9 O_];exact h.f9
 ·rw[g 10 O_];exact h.f10
 ·rw[g 12 O_];exact h.f12
 ·by_cases e:j=i
  ·subst e
   rw[M]at hu;cases hu;rw[iS I,G_ rfl]
  rw[f j _ e]at J;rw[g _ O_];exact h.kZ j u hu J
 rw[f 11 _ (λe=>D e.symm),f 13 _ O_,f 14 _ O_,f 15 _ O_,g 60 O_,g 62 O_,g 63 O_];rcases h.phase with p|p|p|⟨p,q⟩
 ·exact .inl p
 ·exact .inr (.inl p)
 ·exact .inr (.inr (.inl p))
 refine .inr (.inr (.inr ⟨λj hj=>?_,q⟩));rw[mY G];split
 ·rfl
 exact p j hj
end
section
variable{l n:Nat}{Q:Exit->Mt->j_->Prop}{a:Mt}{w w':j_}{K:Mt->j_->Prop}
variable{ops:Array L8}{i b:Nat}{o:L8}{v u:m_}{x y:MA}{ad:Kb}
theorem bM(G:ops[i]?=c_ o)(I:o.guard=b_)(D:∀c,o.op≠.defer c)(j:(Ld a.eval o).run h_ w=.ok (.value v) w')(J:K (a.put o.dst v) w'):
  MU (JK.inRound l) n h_ ops Q i K a w:=by
 unfold MU;simp only[G];rw[G_ (by simp[MO,I])];refine⟨λ_ _=>trivial,?_⟩;rw[show(JK.inRound l).round=c_ l from rfl,Oper.semAt_some l a.eval o D,j];exact J
theorem xQ(G:ops[i]?=c_ o)(I:o.guard=b_)(D:∀c,o.op≠.defer c)(j:(Ld a.eval o).run h_ w=.ok .skip w')(J:K (a.put o.dst q_) w'):
  MU (JK.inRound l) n h_ ops Q i K a w:=by
 unfold MU;simp only[G];rw[G_ (by simp[MO,I])];refine⟨λ_ _=>trivial,?_⟩;rw[show(JK.inRound l).round=c_ l from rfl,Oper.semAt_some l a.eval o D,j];exact J
theorem uZ{f:Nat}{args:Array m_}(G:ops[i]?=c_ o)(I:o.guard=b_)(D:∀c,o.op≠.defer c)(j:(Ld a.eval o).run h_ w=.ok (.enter f args) w)
  (hC:H_ h_ f args w λe w'=>∃v,e=k_ v/\K (a.put o.dst v) w'):
  MU (JK.inRound l) n h_ ops Q i K a w:=by
 unfold MU;simp only[G];rw[G_ (by simp[MO,I])];refine⟨λ_ _=>trivial,?_⟩;rw[show(JK.inRound l).round=c_ l from rfl,Oper.semAt_some l a.eval o D,j];refine⟨(λh=>by cases h),CallsIn.inRound l (Kg.2 (hC.mono λe w' ⟨v,he,J⟩=>?_))⟩;subst he;exact J
variable{o:L8}{ρ:MA->m_}
theorem run_move(h:o.op=Op.move x):(Ld ρ o).run h_ w=.ok (.value (ρ x)) w:=by
 simp[Ld,h]
theorem nC(h:o.op=Op.nilCheck x)(hx:ρ x=i_ (c_ ad)):(Ld ρ o).run h_ w=.ok (.value (i_ (c_ ad))) w:=by
 simp[Ld,h,hx,go_sem]
theorem xj(h:o.op=Nb 91 x 0)(hx:ρ x=i_ (c_ ⟨b,0,b_⟩)):(Ld ρ o).run h_ w=.ok (.value (i_ (c_ ⟨b,0,b_⟩))) w:=by
 simp[Ld,h,hx,go_sem]
theorem sG(h:o.op=Nb 105 x 0)(hx:ρ x=i_ (c_ ⟨b,0,b_⟩)):(Ld ρ o).run h_ w=.ok (.value (i_ (c_ ⟨b,0,b_⟩))) w:=by
 simp[Ld,h,hx,go_sem]
theorem xm(h:o.op=Op.load 25 x)(hx:ρ x=i_ (c_ ad))(hc:w.cell? ad=c_ v):(Ld ρ o).run h_ w=.ok (.value v) w:=by
 simp[Ld,h,hx,go_sem,hc]
theorem xl(h:o.op=Op.load 89 x)(hx:ρ x=i_ (c_ ad))(hc:w.cell? ad=c_ v):(Ld ρ o).run h_ w=.ok (.value v) w:=by
 simp[Ld,h,hx,go_sem,hc]
theorem run_loadBytes(h:o.op=Op.load 24 x)(hx:ρ x=i_ (c_ ad))(hc:w.cell? ad=c_ v):(Ld ρ o).run h_ w=.ok (.value v) w:=by
 simp[Ld,h,hx,go_sem,hc]
theorem xo{A:Option Kb}{L c N:Nat}(h:o.op=Op.slice 24 x b_ (c_ y) b_)(hx:ρ x=a_ A L c)(j:ρ y=e_ d_ (N:Int))(D:N<=c):(Ld ρ o).run h_ w=.ok (.value (a_ A N c)) w:=by
 have hs:=xC A L c N w D;simp[Ld,h,hx,j,go_sem,hs]
theorem run_build(h:o.op=Op.build 105 #[(0,x),(1,y)])(hx:ρ x=u)(j:ρ y=v)(hu:∃A n c,u=a_ A n c)(D:∃k,v=e_ d_ k):(Ld ρ o).run h_ w=.ok (.value (.agg #[u,v])) w:=by
 obtain⟨A,n,c,rfl⟩:=hu;obtain⟨k,rfl⟩:=D;simp[Ld,h,hx,j,go_sem]
theorem xi(h:o.op=Op.box 105 x)(hx:ρ x=.agg #[u,v])(hu:∃A n c,u=a_ A n c)(j:∃k,v=e_ d_ k):(Ld ρ o).run h_ w=.ok (.value (i_ (c_ ⟨w,0,b_⟩))) (w.alloc (f_ #[u,v] 105)):=by
 obtain⟨A,n,c,rfl⟩:=hu;obtain⟨k,rfl⟩:=j;simp[Ld,h,hx,go_sem]
theorem yZ{m v:MA}{key val:m_}(h:o.op=Op.mapUpdate 89 m x v)(hm:ρ m=.map (c_ b))(hx:ρ x=key)(j:ρ v=val)(hr:(MY 89 (.map (c_ b)) key val).run h_ w=.ok () w'):(Ld ρ o).run h_ w=.ok .skip w':=by
 simp[Ld,h,hm,hx,j,hr]
theorem sF(h:o.op=Op.call {callee:=.value (.func 48),args:=#[x],argTypes:=#[24]})(j:ρ (.func 48)=.func (.func 48) #[] #[]):(Ld ρ o).run h_ w=.ok (.enter 48 #[ρ x]) w:=by
 simp[Ld,h,j,go_sem]
end
theorem Gg:(List.range 16).all (λi=>match dz[i]? with|some o=>o.after.toList.all (λe=>!(Region.binds .any e)||decide (e.on<i))|none=>o_)=true:=by kernel_rfl
theorem qw{L:Array Bool}(hs:L.size=16)(hr:K9 .any dz L=[]):∀m i,i<m->i<16->L.getD i o_=v_
 |0,i,h,_=>by omega
 |m+1,i,hm,hi=>by
  cases G:L.getD i o_ with
  |true=>rfl
  |false=>
   exfalso;have j:=LH.1 Gg i (Mq.2 hi);cases D:dz[i]? with
   |none=>rw[D]at j;cases j
   |some o=>
    rw[D]at j;have:i∈K9 .any dz L:=mem_ready.2 ⟨getD_in O_ G,o,D,λe he I=>by
     have h1:=LH.1 j e (by simpa using he);rw[I]at h1;have h2:e.on<i:=by simpa using h1
     exact qw hs hr m e.on O_ O_⟩
    rw[hr]at this;cases this
section
variable{pL mL q N len c2 b7:Nat}{A2:Option Kb}{S:ByteArray}{W:j_}{Post:m_->j_->Prop}{Fin:j_->Prop}{Q:Exit->Mt->j_->Prop}{l n:Nat}
theorem GO(bo:W.cell? ⟨b7,0,b_⟩=c_ (i_ (c_ ⟨pL,0,b_⟩)))(bp:W.cell? ⟨pL,0,b_⟩=c_ (.map (c_ mL)))(hq:W.cell? ⟨q,0,b_⟩=c_ (a_ A2 len c2))(hN:N<=c2)
  (J:∀u w,Post u w->w.cell? ⟨b7,0,b_⟩=c_ (i_ (c_ ⟨pL,0,b_⟩))/\w.cell? ⟨pL,0,b_⟩=c_ (.map (c_ mL))/\w.cell? ⟨q,0,b_⟩=c_ (a_ A2 len c2)/\∃A n c,u=a_ A n c)
  (bb:H_ h_ 48 #[a_ A2 N c2] W λe w'=>∃u,e=k_ u/\Post u w')
  (bf:∀u w2,Post u w2->∃w3,(MY 89 (.map (c_ mL)) (.string S) (i_ (c_ ⟨w2,0,b_⟩))).run h_ (w2.alloc (f_ #[u,.int d_ N] 105))=.ok () w3/\Fin w3)
  {L:Array Bool} {a:Mt} {w:j_} (h:Ba pL mL q N len c2 b7 A2 S W Post Fin L a w) (i:Nat) (hi:i∈K9 .any dz L):
  MU (JK.inRound l) n h_ dz Q i (λa' w'=>Ba pL mL q N len c2 b7 A2 S W Post Fin (L.setIfInBounds i v_) a' w') a w:=by
 have bt:=(mem_ready.1 hi).1;have bg:i<16:=by
  obtain⟨_,o,O,_⟩:=mem_ready.1 hi;rw[<-uS];exact(Li.1 O).1
 have U:L.getD i o_=false:=getD_both bt;have ak:¬(∀j,j<16->L.getD j o_=v_):=λM=>by rw[M i bg]at U;cases U
 have hcell:True->w.cell? ⟨b7,0,b_⟩=c_ (i_ (c_ ⟨pL,0,b_⟩))/\w.cell? ⟨pL,0,b_⟩=c_ (.map (c_ mL))/\w.cell? ⟨q,0,b_⟩=c_ (a_ A2 len c2):=λ_=>by
  rcases h.phase with⟨_,_,_,_,rfl⟩|⟨_,_,_,hp,_⟩|⟨_,_,_,_,u,w2,hp,rfl,_⟩|⟨M,_⟩
  ·exact⟨bo,bp,hq⟩
  ·exact⟨(J _ _ hp).1,(J _ _ hp).2.1,(J _ _ hp).2.2.1⟩
  ·exact⟨eh (J _ _ hp).1,eh (J _ _ hp).2.1,eh (J _ _ hp).2.2.1⟩
  exact absurd M ak
 have a2:True:=trivial;have hL:i<L.size:=by rw[h.size];exact bg
 have f:∀j d,j≠i->(L.setIfInBounds i v_).getD j d=L.getD j d:=λj d hj=>by rw[mY hL,I_ (λe=>hj e.symm)]
 have fi:∀d,(L.setIfInBounds i v_).getD i d=true:=λd=>by rw[mY hL,G_ rfl]
 rcases(show i=0\/i=1\/i=2\/i=3\/i=4\/i=5\/i=6\/i=7\/i=8\/i=9\/i=10\/i=11\/i=12\/i=13\/i=14\/i=15 by omega)with rfl|rfl|rfl|rfl|rfl|rfl|rfl|rfl|rfl|rfl|rfl|rfl|rfl|rfl|rfl|rfl
 ·obtain⟨o,O,X,G,Y,D⟩:=lL Hh
  have I:∀c,o.op≠.defer c:=λc e=>by rw[G]at e;cases e
  refine bM O Y I (xm G h.f7 (hcell a2).1) ?_;rw[X];exact h.steady (i:=0) rfl O_ O_
 ·obtain⟨o,O,X,G,Y,D⟩:=lL Hi
  have I:∀c,o.op≠.defer c:=λc e=>by rw[G]at e;cases e
  refine bM O Y I (nC G (h.kZ 0 _ rfl (D L hi 0 (by simp)))) ?_;rw[X];exact h.steady (i:=1) rfl O_ O_
 ·obtain⟨o,O,X,G,Y,D⟩:=lL Hj
  have I:∀c,o.op≠.defer c:=λc e=>by rw[G]at e;cases e
  refine bM O Y I (xj G (h.kZ 1 _ rfl (D L hi 1 (by simp)))) ?_;rw[X];exact h.steady (i:=2) rfl O_ O_
 ·obtain⟨o,O,X,G,Y,D⟩:=lL Hm
  have I:∀c,o.op≠.defer c:=λc e=>by rw[G]at e;cases e
  refine bM O Y I (xl G (h.kZ 2 _ rfl (D L hi 2 (by simp))) (hcell a2).2.1) ?_;rw[X];exact h.steady (i:=3) rfl O_ O_
 ·obtain⟨o,O,X,G,Y,D⟩:=lL Hn
  have I:∀c,o.op≠.defer c:=λc e=>by rw[G]at e;cases e
  refine bM O Y I ((run_move G).trans (by rw[show a.eval (.tmp 9)=.string S from h.f9])) ?_;rw[X];exact h.steady (i:=4) rfl O_ O_
 ·obtain⟨o,O,X,G,Y,D⟩:=lL Ho
  have I:∀c,o.op≠.defer c:=λc e=>by rw[G]at e;cases e
  refine bM O Y I ((run_move G).trans (by rw[show a.eval (.tmp 10)=i_ (c_ ⟨q,0,b_⟩)from h.f10])) ?_;rw[X];exact h.steady (i:=5) rfl O_ O_
 ·obtain⟨o,O,X,G,Y,D⟩:=lL Hp
  have I:∀c,o.op≠.defer c:=λc e=>by rw[G]at e;cases e
  refine bM O Y I (nC G (h.kZ 5 _ rfl (D L hi 5 (by simp)))) ?_;rw[X];exact h.steady (i:=6) rfl O_ O_
 ·obtain⟨o,O,X,G,Y,D⟩:=lL Hq
  have I:∀c,o.op≠.defer c:=λc e=>by rw[G]at e;cases e
  refine bM O Y I (sG G (h.kZ 6 _ rfl (D L hi 6 (by simp)))) ?_;rw[X];exact h.steady (i:=7) rfl O_ O_
 ·obtain⟨o,O,X,G,Y,D⟩:=lL Hr
  have I:∀c,o.op≠.defer c:=λc e=>by rw[G]at e;cases e
  have bx:w.cell? ⟨q,0,b_⟩=c_ (a_ A2 len c2):=(hcell a2).2.2;refine bM O Y I (run_loadBytes G (h.kZ 7 _ rfl (D L hi 7 (by simp))) bx) ?_;rw[X];exact h.steady (i:=8) rfl O_ O_
 ·obtain⟨o,O,X,G,Y,D⟩:=lL Hs
  have I:∀c,o.op≠.defer c:=λc e=>by rw[G]at e;cases e
  refine bM O Y I ((run_move G).trans (by rw[show a.eval (.tmp 12)=.int d_ N from h.f12])) ?_;rw[X];exact h.steady (i:=9) rfl O_ O_
 ·obtain⟨o,O,X,G,Y,D⟩:=lL Gw
  have I:∀c,o.op≠.defer c:=λc e=>by rw[G]at e;cases e
  refine bM O Y I (xo G (h.kZ 8 _ rfl (D L hi 8 (by simp))) (h.kZ 9 _ rfl (D L hi 9 (by simp))) hN) ?_;rw[X];exact h.steady (i:=10) rfl O_ O_
 ·obtain⟨o,O,X,G,Y,D⟩:=lL Gx
  have I:∀c,o.op≠.defer c:=λc e=>by rw[G]at e;cases e
  have hk:60<a.tmps.size:=by rw[h.nI];omega
  have g:∀(v:m_) j,j≠60->(a.put (c_ 60) v).tmps.getD j q_=a.tmps.getD j q_:=λv j hj=>by rw[iS hk,I_ (λe=>hj e.symm)]
  have gi:∀v:m_,(a.put (c_ 60) v).tmps.getD 60 q_=v:=λv=>by rw[iS hk,G_ rfl]
  have av:L.getD 13 o_=o_/\L.getD 14 o_=o_/\L.getD 15 o_=o_/\w=W:=by
   rcases h.phase with⟨_,p1,p2,p3,p4⟩|⟨p,_⟩|⟨p,_⟩|⟨M,_⟩
   ·exact⟨p1,p2,p3,p4⟩
   ·rw[p]at U;cases U
   ·rw[p]at U;cases U
   exact absurd M ak
  obtain⟨bB,bd,ba,rfl⟩:=av;refine uZ O Y I (sF G rfl) ?_;rw[show a.eval (.tmp 59)=a_ A2 N c2 from h.kZ 10 _ rfl (D L hi 10 (by simp))];refine bb.mono ?_;rintro e w1 ⟨u,rfl,hp⟩;refine⟨u,rfl,?_⟩;rw[X];refine⟨by simp[h.size],by rw[ni];exact h.nI,by rw[g _ 7 O_];exact h.f7,by rw[g _ 9 O_];exact h.f9,by rw[g _ 10 O_];exact h.f10,by rw[g _ 12 O_];exact h.f12,λj v Z hl=>by
   have hj:j≠11:=λe=>by subst e;cases Z
   have bj:j<13:=by
    rcases Nat.lt_or_ge j 13 with hx|hx
    ·exact hx
    exfalso;unfold G5 at Z;split at Z<;>first|omega|cases Z
   rw[f j _ hj]at hl;rw[g _ _ O_];exact h.kZ j v Z hl,.inr (.inl ⟨fi _,by rw[f 14 _ O_];exact bd,by rw[f 15 _ O_];exact ba,by rw[gi];exact hp,λa1=>by rw[f 13 _ O_,bB]at a1;cases a1⟩)⟩
 ·obtain⟨o,O,X,G,Y,D⟩:=lL Gy
  have I:∀c,o.op≠.defer c:=λc e=>by rw[G]at e;cases e
  refine bM O Y I ((run_move G).trans (by rw[show a.eval (.tmp 12)=.int d_ N from h.f12])) ?_;rw[X];exact h.steady (i:=12) rfl O_ O_
 ·obtain⟨o,O,X,G,Y,D⟩:=lL Gz
  have I:∀c,o.op≠.defer c:=λc e=>by rw[G]at e;cases e
  have hk:62<a.tmps.size:=by rw[h.nI];omega
  have g:∀(v:m_) j,j≠62->(a.put (c_ 62) v).tmps.getD j q_=a.tmps.getD j q_:=λv j hj=>by rw[iS hk,I_ (λe=>hj e.symm)]
  have gi:∀v:m_,(a.put (c_ 62) v).tmps.getD 62 q_=v:=λv=>by rw[iS hk,G_ rfl]
  have av:L.getD 14 o_=o_/\L.getD 15 o_=o_/\Post (a.tmps.getD 60 q_) w:=by
   rcases h.phase with⟨p,_⟩|⟨_,p2,p3,p4,_⟩|⟨_,p,_⟩|⟨M,_⟩
   ·rw[D L hi 11 (by simp)]at p;cases p
   ·exact⟨p2,p3,p4⟩
   ·rw[p]at U;cases U
   exact absurd M ak
  obtain⟨bd,ba,hp⟩:=av;refine bM O Y I (run_build G (u:=a.tmps.getD 60 q_) (v:=.int d_ N) rfl (h.kZ 12 _ rfl (D L hi 12 (by simp))) (J _ _ hp).2.2.2 ⟨_,rfl⟩) ?_;rw[X];refine⟨by simp[h.size],by rw[ni];exact h.nI,by rw[g _ 7 O_];exact h.f7,by rw[g _ 9 O_];exact h.f9,by rw[g _ 10 O_];exact h.f10,by rw[g _ 12 O_];exact h.f12,λj v Z hl=>by
   have hj:j≠13:=λe=>by subst e;cases Z
   have bj:j<13:=by
    rcases Nat.lt_or_ge j 13 with hx|hx
    ·exact hx
    exfalso;unfold G5 at Z;split at Z<;>first|omega|cases Z
   rw[f j _ hj]at hl;rw[g _ _ O_];exact h.kZ j v Z hl,.inr (.inl ⟨by rw[f 11 _ O_];exact D L hi 11 (by simp),by rw[f 14 _ O_];exact bd,by rw[f 15 _ O_];exact ba,by rw[g _ 60 O_];exact hp,λ_=>by rw[gi,g _ 60 O_]⟩)⟩
 ·obtain⟨o,O,X,G,Y,D⟩:=lL GA
  have I:∀c,o.op≠.defer c:=λc e=>by rw[G]at e;cases e
  have hk:63<a.tmps.size:=by rw[h.nI];omega
  have g:∀(v:m_) j,j≠63->(a.put (c_ 63) v).tmps.getD j q_=a.tmps.getD j q_:=λv j hj=>by rw[iS hk,I_ (λe=>hj e.symm)]
  have gi:∀v:m_,(a.put (c_ 63) v).tmps.getD 63 q_=v:=λv=>by rw[iS hk,G_ rfl]
  have a1:=D L hi 13 (by simp);have av:L.getD 11 o_=v_/\L.getD 15 o_=o_/\Post (a.tmps.getD 60 q_) w/\a.tmps.getD 62 q_=.agg #[a.tmps.getD 60 q_,.int d_ N]:=by
   rcases h.phase with⟨_,p,_⟩|⟨p1,p2,p3,p4,p5⟩|⟨_,_,p,_⟩|⟨M,_⟩
   ·rw[a1]at p;cases p
   ·exact⟨p1,p3,p4,p5 a1⟩
   ·rw[p]at U;cases U
   exact absurd M ak
  obtain⟨bN,ba,hp,bO⟩:=av;refine bM O Y I (xi G bO (J _ _ hp).2.2.2 ⟨_,rfl⟩) ?_;rw[X];refine⟨by simp[h.size],by rw[ni];exact h.nI,by rw[g _ 7 O_];exact h.f7,by rw[g _ 9 O_];exact h.f9,by rw[g _ 10 O_];exact h.f10,by rw[g _ 12 O_];exact h.f12,λj v Z hl=>by
   have hj:j≠14:=λe=>by subst e;cases Z
   have bj:j<13:=by
    rcases Nat.lt_or_ge j 13 with hx|hx
    ·exact hx
    exfalso;unfold G5 at Z;split at Z<;>first|omega|cases Z
   rw[f j _ hj]at hl;rw[g _ _ O_];exact h.kZ j v Z hl,.inr (.inr (.inl ⟨by rw[f 11 _ O_];exact bN,by rw[f 13 _ O_];exact a1,fi _,by rw[f 15 _ O_];exact ba,_,w,hp,rfl,gi _⟩))⟩
 obtain⟨o,O,X,G,Y,D⟩:=lL GB;have I:∀c,o.op≠.defer c:=λc e=>by rw[G]at e;cases e
 have bk:=D L hi 14 (by simp);have av:∃u w2,Post u w2/\w=w2.alloc (f_ #[u,.int d_ N] 105)/\a.tmps.getD 63 q_=i_ (c_ ⟨w2,0,b_⟩):=by
  rcases h.phase with⟨_,_,p,_⟩|⟨_,p,_⟩|⟨_,_,_,_,p⟩|⟨M,_⟩
  ·rw[bk]at p;cases p
  ·rw[bk]at p;cases p
  ·exact p
  exact absurd M ak
 obtain⟨u,w2,hp,rfl,bR⟩:=av;obtain⟨w3,bm,bn⟩:=bf u w2 hp;refine xQ O Y I (yZ G (h.kZ 3 _ rfl (D L hi 3 (by simp))) (h.kZ 4 _ rfl (D L hi 4 (by simp))) bR bm) ?_;rw[X];refine⟨by simp[h.size],h.nI,h.f7,h.f9,h.f10,h.f12,λj v Z hl=>?_,.inr (.inr (.inr ⟨λj hj=>?_,bn⟩))⟩
 ·have hj:j≠15:=λe=>by subst e;cases Z
  rw[f j _ hj]at hl;exact h.kZ j v Z hl
 by_cases e:j=15
 ·subst e;exact fi _
 rw[f j _ e];refine D L hi j ?_;have:j=0\/j=1\/j=2\/j=3\/j=4\/j=5\/j=6\/j=7\/j=8\/j=9\/j=10\/j=11\/j=12\/j=13\/j=14:=by omega
 simp;omega
end
section
variable{pL mL q N len c2 b7:Nat}{A2:Option Kb}{S:ByteArray}{W:j_}{Post:m_->j_->Prop}{Fin:j_->Prop}{Q:Exit->Mt->j_->Prop}{l n:Nat}
theorem DX(O:W.cell? ⟨b7,0,b_⟩=c_ (i_ (c_ ⟨pL,0,b_⟩)))(U:W.cell? ⟨pL,0,b_⟩=c_ (.map (c_ mL)))(Z:W.cell? ⟨q,0,b_⟩=c_ (a_ A2 len c2))(hN:N<=c2)
  (J:∀u w,Post u w->w.cell? ⟨b7,0,b_⟩=c_ (i_ (c_ ⟨pL,0,b_⟩))/\w.cell? ⟨pL,0,b_⟩=c_ (.map (c_ mL))/\w.cell? ⟨q,0,b_⟩=c_ (a_ A2 len c2)/\∃A n c,u=a_ A n c)
  (I:H_ h_ 48 #[a_ A2 N c2] W.drew λe w'=>∃u,e=k_ u/\Post u w')
  (M:∀u X,Post u X->∃w3,(MY 89 (.map (c_ mL)) (g_ S) (i_ (c_ ⟨X,0,b_⟩))).run h_ (X.alloc (f_ #[u,e_ d_ N] 105))=.ok () w3/\Fin w3)
  (hQ:∀a w,Fin w->Q .normal a w)
  (a:Mt) (hs:a.tmps.size=65) (f7:a.tmps.getD 7 q_=i_ (c_ ⟨b7,0,b_⟩)) (f9:a.tmps.getD 9 q_=g_ S) (f10:a.tmps.getD 10 q_=i_ (c_ ⟨q,0,b_⟩)) (f12:a.tmps.getD 12 q_=e_ d_ N):
  (MW 11 dz v_).wpIn (JK.inRound l) n h_ Q a W:=by
 refine wpIn_region_any K_ ?_;refine pO (Ba pL mL q N len c2 b7 A2 S W.drew Post Fin) (λL a w h=>by rw[h.size,uS]) (λL a w h hr=>?_) (λL a w h i hi=>GO (W:=W.drew) O U Z hN J I M h i hi) _ _ _ _ ?_ ?_
 ·have G:=qw h.size hr 16
  rcases h.phase with⟨p,_⟩|⟨_,p,_⟩|⟨_,_,_,p,_⟩|⟨_,hf⟩
  ·rw[G 11 O_ O_]at p;cases p
  ·rw[G 14 O_ O_]at p;cases p
  ·rw[G 15 O_ O_]at p;cases p
  exact hQ _ _ hf
 ·rw[uS];decide
 have D:∀j,(MP dz.size o_).getD j o_=false:=λj=>getD_replicate_false _ j
 refine⟨by rw[Array.size_replicate,uS],hs,f7,f9,f10,f12,λi v _ Y=>?_,.inl ⟨D _,D _,D _,D _,rfl⟩⟩;rw[D]at Y;cases Y
end
def kl(keeps:List Int)(i:Nat):Int:=if keeps.length=0 then 0 else keeps.getD (i%keeps.length) 0
def mi(k:Int)(f:af):Nat:=f.safe+min k.toNat (f.data.length - f.safe)
def eZ(keeps:List Int)(i:Nat)(f:af):af:=⟨f.name,f.data.take (mi (kl keeps i) f),mi (kl keeps i) f⟩
def cN(keeps:List Int):Nat->List af->List af
 |_,[]=>[]
 |i,f::fs=>eZ keeps i f::cN keeps (i+1) fs
variable{α:Type}{V w3 w w':j_}{p n qF B base:Nat}{aa:Int}{keeps:List Int}{kv v:m_}{ls:List (List UInt8)}{A:Option Kb}{F:Nat->Prop}{xs:List m_}{l s:List UInt8}{e:Ki}
theorem kD(keeps:List Int)(x:af):∀(l:List af) (i:Nat),cN keeps i (l++[x])=cN keeps i l++[eZ keeps (i+l.length) x]
 |[],i=>by simp[cN]
 |f::l,i=>by
  rw[Ka,cN,kD keeps x l (i+1),cN];simp[ME,Nat.add_comm 1]
theorem jN(keeps:List Int):∀(l:List af) (i:Nat),(cN keeps i l).map af.name=l.map af.name
 |[],_=>rfl
 |f::l,i=>by rw[cN,Ks,Ks,jN keeps l (i+1)];rfl
theorem lN(keeps:List Int)(l:List af)(i:Nat):(cN keeps i l).length=l.length:=by
 have:=J7 List.length (jN keeps l i);simpa using this
def jO(keeps:List Int)(l:List af):List af:=(cN keeps 0 l).foldl (λacc f=>aq af.name f acc) []
theorem vF(keeps:List Int)(l:List af)(x:af):jO keeps (l++[x])=aq af.name (eZ keeps l.length x) (jO keeps l):=by
 unfold jO;rw[kD,List.foldl_append];simp
theorem r9{key:α->List UInt8}{x:α}:∀{l:List α},(∀y∈l,Kk (key y) (key x)=v_)->aq key x l=l++[x]
 |[],_=>rfl
 |y::l,h=>by
  have j:=h y (by simp);have D:(key y==key x)=false:=KN.2 λe=>by rw[e,before_irrefl]at j;cases j
  have G:=r9 (l:=l) (λz I=>h z (by simp[I]));unfold aq at G⊢;have J:an key (key x) (y::l)=y::an key (key x) l:=by unfold an;rw[M_,D];rfl
  rw[J];unfold dm;rw[fC j,I_ (by simp),G];rfl
theorem oR{key:α->List UInt8}:∀(rest acc:List α),cQ key (acc++rest)->rest.foldl (λa f=>aq key f a) acc=acc++rest
 |[],acc,_=>by simp
 |x::rest,acc,h=>by
  rw[LU,r9 (λy j=>by
   have:=List.pairwise_append.1 h;exact this.2.2 y j x (by simp)),oR rest (acc++[x]) (by simpa using h)]
  simp
theorem su(keeps:List Int){l:List af}(h:cQ af.name l):jO keeps l=cN keeps 0 l:=by
 unfold jO;have hr:cQ af.name (cN keeps 0 l):=by
  have h1:(l.map af.name).Pairwise (λa b=>Kk a b=v_):=MH.2 h;rw[<-jN keeps l 0]at h1;exact MH.1 h1
 have:=oR (key:=af.name) (cN keeps 0 l) [] (by simpa using hr);simpa using this
theorem oZ{key:α->List UInt8}(x:α):∀l:List α,(dm key x l).length=l.length+1
 |[]=>rfl
 |y::l=>by
  unfold dm;split
  ·rfl
  simp[oZ x l]
theorem uy{key:α->List UInt8}(x:α)(l:List α):(aq key x l).length<=l.length+1:=by
 unfold aq;rw[oZ];have:(an key (key x) l).length<=l.length:=KX _ _;omega
theorem sr(keeps:List Int)(l:List af):(jO keeps l).length<=l.length:=by
 have key:∀(fs acc:List af),(fs.foldl (λa f=>aq af.name f a) acc).length<=acc.length+fs.length:=by
  intro fs
  induction fs with
  |nil=>intro acc;simp
  |cons f fs j=>
   intro acc;rw[LU];have h1:=j (aq af.name f acc);have h2:=uy (key:=af.name) f acc;simp;omega
 have:=key (cN keeps 0 l) [];rw[lN]at this;simpa[jO]using this
def ic(st:St)(keeps:List Int)(aa:Int):St:=⟨aa,cN keeps 0 st.files⟩
theorem cC.Gm{W:j_}{pow:Int}{O:List ay}{G:Nat}(h:cC W p pow O G)(x':ay)(Z:du w3 x')(j:x'.v.ownBlock≠c_ x'.q)
  (I:w3.ownsMap h_ 9 bJ G n ((jI O).put (.string x'.f.name) (.lit (.int d_ x'.q)))) (Y:n_ W W V) (hg:V.grownBy w3 (c_ G)) (hq:∀k∈aP x',W<=k):
  cC w3 p pow (aq bT x' O) G:=by
 have J:∀k,k<W.heap.size->k≠G->w3.heap[k]?=W.heap[k]?:=λk D j=>(hg.block k (Kc D Y.size) (λe=>j (by cases e;rfl))).trans (Y.block k D)
 have ak:=h.map.lt;have U:=F_ h.head;refine h.put x' Z j (n:=n) (by rw[<-ug];exact I) (J p U h.pm) (λy M _ k D=>J k ((h.files y M).lt k D) (λe=>(h.pf y M).2.1 (e▸D))) (λk D=>?_);have:=hq k D;exact⟨by omega,by omega,λy M _ X=>by have:=(h.files y M).lt k X;omega⟩
def GZ(b m:Nat)(_:j_)(k:Nat):Prop:=k=b\/k=m
structure ej(w:j_)(aa:Int)(keeps:List Int)(kv:m_)(qF:Nat)(fs:List af)(W:j_):Prop where
 b4:Boxed W w.heap.size 67 kv
 b7:Boxed W (w.heap.size+1+1+1) 25 (i_ (c_ ⟨w.heap.size+1+1,0,b_⟩))
 b8:Boxed W (w.heap.size+1+1+1+1) 3 (e_ d_ qF)
 fs:∃ys,ys.map (·.f)=jO keeps fs/\cC W (w.heap.size+1+1) aa ys (w.heap.size+1)/\∀y∈ys,∀k∈aP y,w.heap.size+6<=k
 below:n_ w.heap.size w W
 size:w.heap.size+6<=W.heap.size
theorem zL(k:Int)(f:af)(h:f.safe<=f.data.length):mi k f<=f.data.length:=by unfold mi;omega
theorem Bk{D:j_}{u:m_}{m:Nat}{fs:List af}{f:af}(hI:ej w aa keeps kv qF fs V)(I:f.safe<=f.data.length){N:Nat}(hN:N=mi (kl keeps fs.length) f)
  (G:Par.Own D V 5 u (l_ (f.data.take N))) (X:n_ V V D) {ys:List ay} (a1:ys.map (·.f)=jO keeps fs) (a2:cC V (w.heap.size+1+1) aa ys (w+1)) (ba:∀y∈ys,∀k∈aP y,w.heap.size+6<=k)
  (Y:w3.ownsMap h_ 9 bJ (w+1) m ((jI ys).put (.string f.name) (.lit (.int d_ D)))) (U:(D.alloc (f_ #[u,.int d_ N] 105)).grownBy w3 (c_ (w.heap.size+1))):
  ej w aa keeps kv qF (fs++[f]) w3/\ML (w+6) V w3/\xU (w+6) (GZ (w.heap.size+1+1+1+1) (w+1)) V w3:=by
 have hz:=hI.size;have Z:=X.size;have J:n_ V V (D.alloc (f_ #[u,.int d_ N] 105)):=X.alloc Z _;have bj:D.heap.size+1<=w3.heap.size:=by have:=U.size;simpa using this
 have same:∀k,k<V.heap.size->k≠w.heap.size+1->w3.heap[k]?=V.heap[k]?:=λk j bb=>(U.block k (by simp;omega) (λe=>bb (by cases e;rfl))).trans (J.block k j)
 have bk:N<=f.data.length:=by rw[hN];exact zL _ _ I
 have M:=G.lt;have bd:w3.heap[D.heap.size]?=c_ (f_ #[u,.int d_ N] 105 (0,0)):=by
  rw[U.block _ (by simp) (λe=>by have:=Option.some.inj e;omega)];exact r_ D _
 have O:w3.ownsRow 0 5 1 u (f.data.take N).length (l_ (f.data.take N)):=by
  have h1:D.ownsRow V 5 1 u (f.data.take N).length (l_ (f.data.take N)):=by
   have:=G;unfold Par.Own at this;rwa[t_]at this
  refine aO (sC h1) (λg bf=>?_);obtain⟨h2,h3⟩:=M g bf;rw[U.block g (by simp;omega) (λe=>by have:=Option.some.inj e;omega),z_ _ _ _ h3]
 have bg:eZ keeps fs.length f=⟨f.name,f.data.take N,N⟩:=by unfold eZ;rw[hN]
 have ak:∀k∈aP ⟨⟨f.name,f.data.take N,N⟩,D.heap.size,u⟩,V<=k:=by
  intro k j;unfold aP at j;rcases JL.1 j with rfl|j
  ·exact Z
  exact(M k (by simpa using j)).1
 have av:=a2.Gm ⟨⟨f.name,f.data.take N,N⟩,D.heap.size,u⟩ ⟨bd,O,by simp;omega⟩ (λe=>by have:=(M D e).2;omega) Y J U ak;refine⟨⟨(same _ O_ O_).trans hI.b4,(same _ O_ O_).trans hI.b7,(same _ O_ O_).trans hI.b8,⟨_,?_,av,λy hy k j=>?_⟩,?_,by omega⟩,⟨by omega,λk o hB j _=>?_⟩,⟨by omega,λk o j _ hn=>?_,λk j=>.inl j⟩⟩
 ·rw[fX (key:=bT) (key':=af.name) ay.f (λ_=>rfl),a1,vF,bg]
 ·rcases cP.1 hy with rfl|⟨h1,_⟩
  ·have:=ak k j;omega
  exact ba y h1 k j
 ·exact(hI.below.trans ((J.mono O_))).grown U (by simp;omega) (λk e=>by cases e;omega)
 ·rw[same k (F_ j) O_];exact j
 rw[same k (F_ j) (λe=>hn (.inr e))];exact j
theorem ej.drewN{fs:List af}(h:ej w aa keeps kv qF fs V)(n:Nat):ej w aa keeps kv qF fs (V.drewN n):=
 ⟨h.b4,h.b7,h.b8,by obtain⟨j,h1,h2,D⟩:=h.fs;exact⟨j,h1,h2.drewN n,D⟩,below_drewN h.below n,h.size⟩
theorem ej.count{fs:List af}(h:ej w aa keeps kv qF fs V)(j:Nat):
  ej w aa keeps kv j fs (V.setCell ⟨w+1+1+1+1,0,b_⟩ (e_ d_ j))/\ML (w+6) V (V.setCell ⟨w+1+1+1+1,0,b_⟩ (e_ d_ j))/\
   xU (w+6) (GZ (w.heap.size+1+1+1+1) (w+1)) V (V.setCell ⟨w+1+1+1+1,0,b_⟩ (e_ d_ j)):=by
 have hs:(V.setCell ⟨w+1+1+1+1,0,b_⟩ (e_ d_ j)).heap.size=V.heap.size:=by simp[World.setCell]
 have same:∀k,k≠w.heap.size+1+1+1+1->(V.setCell ⟨w+1+1+1+1,0,b_⟩ (e_ d_ j)).heap[k]?=V.heap[k]?:=λk D=>JZ _ _ _ _ D
 refine⟨⟨(same _ O_).trans h.b4,(same _ O_).trans h.b7,h.b8.set _,?_,h.below.setCell (p:=⟨w+1+1+1+1,0,b_⟩) (by simp;omega) _,by rw[hs];exact h.size⟩,(KeepsOthers.setCell _ _ _).from _,⟨by rw[hs];exact Kh _,λk o D _ hn=>?_,λk D=>.inl D⟩⟩
 ·obtain⟨I,h1,h2,G⟩:=h.fs
  refine⟨I,h1,h2.block (λk D=>same k (λe=>?_)),G⟩;rcases D with rfl|rfl|⟨y,J,D⟩
  ·omega
  ·omega
  have:=G y J k D;omega
 rw[same k (λe=>hn (.inl e))];exact D
theorem qK{fs:List af}(hI:ej w aa keeps kv qF fs V)(x:ay)(j:du V x)(a2:x.f.data.length<=2147483648)(ba:x.f.name.length<=100000)(bb:fs.length<=100000)
  {N:Nat} (hN:N=mi (kl keeps fs.length) x.f) {l n:Nat} {Q:Exit->Mt->j_->Prop}
  (hQ:∀a w3,ej w aa keeps kv qF (fs++[x.f]) w3->ML (w+6) V w3->xU (w+6) (GZ (w.heap.size+1+1+1+1) (w+1)) V w3->Q .normal a w3)
  (a:Mt) (hs:a.tmps.size=65) (f7:a.tmps.getD 7 q_=i_ (c_ ⟨w+1+1+1,0,b_⟩)) (f9:a.tmps.getD 9 q_=.string ⟨x.f.name.toArray⟩) (f10:a.tmps.getD 10 q_=i_ (c_ ⟨x.q,0,b_⟩)) (f12:a.tmps.getD 12 q_=.int d_ N):
  (MW 11 dz v_).wpIn (JK.inRound l) n h_ Q a V:=by
 obtain⟨A2,c2,hv⟩:=j.form;have hh:=j.head;have D:=j.row;rw[hv]at hh D;have a1:=qb D;have O:N<=x.f.data.length:=by rw[hN];exact zL _ _ j.safe
 obtain⟨ys,U,G,ak⟩:=hI.fs;have I:V.cell? ⟨x.q,0,b_⟩=c_ (a_ A2 x.f.data.length c2):=by simp[E_,hh]
 have J:V.cell? ⟨w+1+1,0,b_⟩=c_ (.map (c_ (w.heap.size+1))):=by simp[E_,G.head]
 have bd:ys.length<=100000:=by
  have h1:=J7 List.length U;have h2:=sr keeps fs;simp at h1;omega
 have X:keyOf h_ 9 (.string ⟨x.f.name.toArray⟩)=c_ (.string x.f.name):=by
  have:=iw ⟨x.f.name.toArray⟩ (by rw[Lib.size_eq];simp;omega);simpa using this
 refine DX (W:=V) (pL:=w.heap.size+1+1) (mL:=w.heap.size+1) (q:=x.q) (N:=N) (len:=x.f.data.length) (c2:=c2) (b7:=w.heap.size+1+1+1) (A2:=A2) (S:=⟨x.f.name.toArray⟩)
  (Post:=λu M=>Par.Own M V 5 u (l_ (x.f.data.take N))/\n_ V V M)
  (Fin:=λw3=>ej w aa keeps kv qF (fs++[x.f]) w3/\ML (w+6) V w3/\xU (w+6) (GZ (w.heap.size+1+1+1+1) (w+1)) V w3)
  hI.b7.cell J I O_ (λu M ⟨h1,h2⟩=>?_) ?_ (λu M ⟨h1,h2⟩=>?_) (λa w3 ⟨h1,h2,h3⟩=>hQ a w3 h1 h2 h3) a hs f7 f9 f10 f12
 ·obtain⟨A,c,hu⟩:=h1.form
  exact⟨(h2.cell (p:=⟨_,_,_⟩) hI.b7.lt).trans hI.b7.cell,(h2.cell (p:=⟨_,_,_⟩) (JY _ _ J)).trans J,(h2.cell (p:=⟨_,_,_⟩) (JY _ _ I)).trans I,A,_,c,hu⟩
 ·have hr:V.drew.ownsRow 0 5 1 (a_ A2 N c2) (x.f.data.take N).length (l_ (x.f.data.take N)):=by
   have:=ng D N O;rw[JN,K2 O];exact this
  refine(sU _ (x.f.data.take N) 0 V.drew hr (by simp;omega)).mono ?_;rintro e w' ⟨u,rfl,h1,h2⟩;exact⟨u,rfl,h1,⟨h2.os,h2.tape,h2.output,h2.size,h2.block⟩⟩
 have av:(M.alloc (f_ #[u,.int d_ N] 105)).ownsMap h_ 9 bJ (w+1) ys.length (jI ys):=(dF G.map (h2.block _ G.map.lt)).alloc _;obtain⟨w3,Y,Z,hg⟩:=av.update rY Lz (by unfold JT;omega) X (val:=i_ (c_ ⟨M,0,b_⟩)) (d:=.lit (.int d_ M)) (ps:=[]) rfl;exact⟨w3,Y,Bk hI j.safe hN h1 h2 U G ak Z hg⟩
attribute [local go_sem] Oper.semAt_some
theorem ej.kept{X Y:j_}{fs:List af}{row:Option Nat}(h:ej w aa keeps kv qF fs X)(J:X.grownBy Y row)(hr:∀r,row=c_ r->w.heap.size+6<=r/\∃o:Obj,X.heap[r]?=c_ o/\o.isCells=o_):ej w aa keeps kv qF fs Y:=by
 have hz:=h.size;have same:∀k,k<w.heap.size+6->Y.heap[k]?=X.heap[k]?:=λk j=>J.block k O_ (λe=>by have:=(hr k e.symm).1;omega)
 have cells:∀(k:Nat) (o:Obj),X.heap[k]?=c_ o->o.isCells=v_->Y.heap[k]?=X.heap[k]?:=λk o j hc=>J.block k (F_ j) (λe=>by
  obtain⟨_,o',G,I⟩:=hr k e.symm;rw[j]at G;cases G;rw[hc]at I;cases I)
 obtain⟨O,h1,h2,U⟩:=h.fs;refine⟨(same _ O_).trans h.b4,(same _ O_).trans h.b7,(same _ O_).trans h.b8,⟨O,h1,h2.block (λk j=>?_),U⟩,h.below.grown J h.below.size (λk e=>by have:=(hr k e).1;omega),by have:=J.size;omega⟩;rcases j with rfl|rfl|⟨y,Z,j⟩
 ·exact same _ O_
 ·exact same _ O_
 have M:=h2.files y Z;unfold aP at j;rcases JL.1 j with rfl|j
 ·exact cells _ _ M.head rfl
 have D:y.v.ownBlock=c_ k:=by simpa using j
 rcases M.row.2 with⟨e,_⟩|⟨g,cap,cur,e,_,hb,_⟩
 ·rw[e]at D;cases D
 rw[e]at D;cases D;exact cells _ _ hb rfl
theorem Bj(w:j_)(p:Nat)(st:St)(F:Nat->Prop)(h:Jw w p st F)(bp:st.files.length<=100000)(cc:∀f∈st.files,f.name.length<=100000)(cd:∀f∈st.files,f.data.length<=2147483648)
  (kv:m_) (keeps:List Int) (I:bw w w kv (ints keeps)) (aa:Int):
  H_ h_ 25 #[i_ (c_ ⟨p,0,b_⟩),kv,.int d_ aa] w λe w'=>∃p' F',e=k_ (i_ (c_ ⟨p',0,b_⟩))/\Jw w' p' (ic st keeps aa) F'/\(∀k,F' k->w.heap.size<=k/\k<w'.heap.size)/\n_ w w w':=by
 obtain⟨xs,mb,ba,M,rfl⟩:=h;have cf:xs.length<=100000:=by rw[ba]at bp;simpa using bp
 have bt:∀x∈xs,x.f.name.length<=100000:=λx hx=>cc x.f (by rw[ba];exact Kw hx)
 have bb:=M.lt;obtain⟨A,c,rfl,cF,c6,bx⟩:=I.open_ints;obtain⟨W0,O⟩:=N_ ((((((w.alloc (f_ #[a_ A keeps.length c] 67)).alloc (.map #[] 0)).alloc (f_ #[.map (c_ (w.heap.size+1)),.int d_ aa] 91)).alloc (f_ #[i_ (c_ ⟨w+1+1,0,b_⟩)] 25)).alloc (f_ #[.int d_ 0] 3)).alloc (f_ #[i_ (c_ ⟨p,0,b_⟩)] 25));have c9:W0.heap.size=w.heap.size+6:=by rw[O];simp
 have bd:n_ w w W0:=by
  rw[O];exact((((((JG _ w).alloc L_ _).alloc (by simp) _).alloc (by simp;omega) _).alloc (by simp;omega) _).alloc (by simp;omega) _).alloc (by simp;omega) _
 have bB:Hid (SeqStopsK JK 6 h_ 111 #[i_ (c_ ⟨w+1+1+1+1+1,0,b_⟩)] (Db (xs:=xs)) (xU (w+6) (GZ (w.heap.size+1+1+1+1) (w+1))) (λys=>ys=xs.attach) (λpre=>pre<+:xs.attach) xs.length W0):=Z_ (qP W0 p st.aa xs mb (M.below bd) cf bt _ (w+6) O_ O_ (by rw[O];have:=r_ (((((w.alloc (f_ #[a_ A keeps.length c] 67)).alloc (.map #[] 0)).alloc (f_ #[.map (c_ (w.heap.size+1)),.int d_ aa] 91)).alloc (f_ #[i_ (c_ ⟨w+1+1,0,b_⟩)] 25)).alloc (f_ #[.int d_ 0] 3)) (f_ #[i_ (c_ ⟨p,0,b_⟩)] 25);simpa only[JQ]using this) (λk I=>by have:=bb k I;omega) _ (λW hW k I=>by
  rcases I with rfl|rfl
  ·exact⟨by omega,by omega,λho=>by have:=bb _ ho;omega⟩
  exact⟨by omega,by omega,λho=>by have:=bb _ ho;omega⟩))
 refine(Kg (n:=7)).1 ?_;refine callsIn_of_wp_marks Tryz.func25 rfl trivial ?_ rfl;simp only[Tryz.ntmps25,KB,Jz,JP,KR,Lc,KF,KG,KP,KK,Kl,Ka];gi_wp2_with (first
  |(refine⟨trivial,?_⟩;gi_at_call 9;refine(Kg.2 (Aj aa _)).mono ?_;rintro e w1 ⟨rfl,rfl⟩)
  |(refine⟨trivial,?_⟩;gi_at_call 66;refine(Kg.2 (vK p _)).mono ?_;rintro e w1 ⟨rfl,rfl⟩))
 rw[<-O];have df:=bd.size;have bf:=Z_ ba;refine wpIn_rangeFunc_ownG (F:=JK) rfl O_ (gf:=111) (lb:=#[i_ (c_ ⟨w+1+1+1+1+1,0,b_⟩)]) rfl trivial (enters_of Tryz.func111 K_ rfl)
  bB.o rk ?hKb B_ (λ_=>rfl)
  (λpre W=>ej w aa keeps (a_ A keeps.length c) (if keeps.length=0 then 0 else pre.length) (pre.map λx=>x.1.f) W)
  (λ_ _ _=>False) ?hI (λ_ _ _ _ _ hs _ _=>hs) ?h0
  (λx=>{tmps:=#[i_ (c_ ⟨p,0,b_⟩),a_ A keeps.length c,.int d_ aa,q_,i_ (c_ ⟨w,0,b_⟩),q_,i_ b_,i_ (c_ ⟨w+1+1+1,0,b_⟩),i_ (c_ ⟨w+1+1+1+1,0,b_⟩),.string ⟨x.1.f.name.toArray⟩,i_ (c_ ⟨x.1.q,0,b_⟩),q_,q_,.int d_ aa,i_ (c_ ⟨w+1+1,0,b_⟩),i_ (c_ ⟨p,0,b_⟩),.func (.func 111) #[] #[i_ (c_ ⟨w+1+1+1+1+1,0,b_⟩)],.string ⟨x.1.f.name.toArray⟩,i_ (c_ ⟨x.1.q,0,b_⟩),q_,q_,q_,q_,q_,q_,q_,q_,q_,q_,q_,q_,q_,q_,q_,q_,q_,q_,q_,q_,q_,q_,q_,q_,q_,q_,q_,q_,q_,q_,q_,q_,q_,q_,q_,q_,q_,q_,q_,q_,q_,q_,q_,q_,q_,q_],defers:=[]}) ?assign ?body ?done ?stop
 case hKb=>
  intro W l o o' hl bN cg dv;exact jU O_ bN cg (λk I=>I)
 case hI=>
  intro pre X Y row hs hg hr;exact hs.kept hg (λr e=>⟨by have:=(hr r e).1;omega,(hr r e).2⟩)
 case h0=>
  have e0:(if keeps.length=0 then 0 else([]:List (lZ xs)).length)=0:=by split<;>rfl
  rw[e0,O];have k7:=((Boxed.new (((w.alloc (f_ #[a_ A keeps.length c] 67)).alloc (.map #[] 0)).alloc (f_ #[.map (c_ (w.heap.size+1)),.int d_ aa] 91)) 25 (i_ (c_ ⟨w+1+1,0,b_⟩))).alloc (f_ #[.int d_ 0] 3)).alloc (f_ #[i_ (c_ ⟨p,0,b_⟩)] 25);have k8:=(Boxed.new ((((w.alloc (f_ #[a_ A keeps.length c] 67)).alloc (.map #[] 0)).alloc (f_ #[.map (c_ (w.heap.size+1)),.int d_ aa] 91)).alloc (f_ #[i_ (c_ ⟨w+1+1,0,b_⟩)] 25)) 3 (.int d_ 0)).alloc (f_ #[i_ (c_ ⟨p,0,b_⟩)] 25);have kh:=(r_ ((w.alloc (f_ #[a_ A keeps.length c] 67)).alloc (.map #[] 0)) (f_ #[.map (c_ (w.heap.size+1)),.int d_ aa] 91));have km:=World.ownsMap_made (w.alloc (f_ #[a_ A keeps.length c] 67)) h_ 9 bJ;simp only[JQ]at k7 k8 kh km;refine⟨((((((Boxed.new w 67 (a_ A keeps.length c)).alloc _).alloc _).alloc _).alloc _).alloc _),k7,k8,⟨[],rfl,⟨?_,(((km.alloc _).alloc _).alloc _).alloc _,by simp,List.Pairwise.nil,by omega,by simp,by simp⟩,by simp⟩,by rw[<-O];exact bd,by rw[<-O];omega⟩;rw[z_ _ _ _ (by first|omega|(simp;done)|(simp;omega)),z_ _ _ _ (by first|omega|(simp;done)|(simp;omega)),z_ _ _ _ (by first|omega|(simp;done)|(simp;omega))];exact kh
 case assign=>
  intro l x W K hK;dsimp only[Db];gi_wp2;exact hK
 case body=>
  intro l pre x W G hlen;have eb:x.1.q<w:=F_ (M.files x.1 x.2).head;have ak:=(M.files x.1 x.2).block (w':=W) (λk I=>G.below.block k ((M.files x.1 x.2).lt k I));obtain⟨A2,c2,bg⟩:=ak.form;have a1:=ak.head;rw[bg]at a1;have U:=ak.row;rw[bg]at U;have ch:=qb U;have ck:=ak.safe;have g0:W.cell? ⟨x.1.q,0,b_⟩=c_ (a_ A2 x.1.f.data.length c2):=by simp[E_,a1]
  have g1:W.cell? ⟨x.1.q,1,b_⟩=c_ (.int d_ x.1.f.safe):=by simp[E_,a1]
  have bO:x.1.f.data.length<=2147483648:=cd x.1.f (by rw[bf.o];exact Kw x.2);have bR:=bt x.1 x.2;have b0:=Z_ ak;clear bg a1 ak U;by_cases Z:keeps.length=0
  ·rw[G_ Z]at G
   have c4:=G.b4.cell;have c7:=G.b7.cell;have c8:=G.b8.cell;have HI:=Z_ G;clear G;have cl:decide (0<keeps.length)=false:=by rw[Z];rfl
   have q1:d_.wrap ((x.1.f.data.length:Int) - x.1.f.safe)=((x.1.f.data.length - x.1.f.safe:Nat):Int):=by rw[IntWalk.i64_in _ O_];omega
   gi_wp2;refine cV K_ K_ K_ ?_
   repeat (any_goals (first|go_big_quiet_step (fail)|quiet_step (fail)))
   all_goals(refine wpQuiet_nil ?_;intro _ av;obtain⟨nq,J⟩:=av;subst J)
   clear q1;gi_wp2;have bj:(x.1.f.safe:Int)+min 0 ((x.1.f.data.length - x.1.f.safe:Nat):Int)=((mi (kl keeps (pre.map λx=>x.1.f).length) x.1.f:Nat):Int):=by unfold mi kl;rw[G_ Z];simp;omega
   rw[bj];refine qK (HI.o.drewN nq) x.1 (b0.o.block (λ_ _=>rfl)) bO bR (by simp;omega) rfl (λa w3 h1 h2 h3=>?_) _ rfl rfl rfl rfl rfl;refine⟨⟨h2.size,λk o hB=>h2.same k o O_⟩,h3,?_⟩;show ej w aa keeps (a_ A keeps.length c) (if keeps.length=0 then 0 else(pre++[x]).length) ((pre++[x]).map λx=>x.1.f) w3;rw[G_ Z,Lb];exact h1
  rw[I_ Z]at G;have b1:0<keeps.length:=by omega
  have c4:=G.b4.cell;have c7:=G.b7.cell;have c8:=G.b8.cell;have f8:=G.b8.frozen;obtain⟨j,hj⟩:=N_ (pre.length%keeps.length);have cm:j<keeps.length:=by rw[hj];exact Nat.mod_lt _ b1
  obtain⟨bk,ok,xk,rfl,cp,b2,cr⟩:=bx.int cm;have b3:W.cell? ⟨bk,ok+j,b_⟩=c_ (.int d_ xk):=(G.below.cell (p:=⟨bk,ok+j,b_⟩) cp).trans b2;have q0:((pre.length:Int)).tmod (keeps.length:Int)=(j:Int):=by rw[hj];rfl
  have HJ:=Z_ hj;clear hj b2;have a2:w.heap.size+1+1+1+1≠x.1.q:=by omega
  have HI:=Z_ G;clear G;have cl:decide (0<keeps.length)=true:=by simpa using b1
  gi_wp2;refine cV K_ K_ K_ ?_
  repeat (any_goals (first|go_big_quiet_step (fail)|quiet_step (fail)))
  all_goals(refine wpQuiet_nil ?_;intro _ av;obtain⟨nq,J⟩:=av;subst J)
  clear q0;gi_wp2;have q2:(pre.length:Int)+1=((pre.length+1:Nat):Int):=by omega
  rw[q2];obtain⟨V,hV⟩:=N_ ((W.drewN nq).setCell ⟨w+1+1+1+1,0,b_⟩ (.int d_ ((pre.length+1:Nat):Int)));rw[<-hV];obtain⟨bm,bn,bo⟩:=(HI.o.drewN nq).count (pre.length+1);have b5:du V x.1:=b0.o.block (λk I=>by
   rw[hV,JZ _ _ _ _ (λe=>by have:=(M.files x.1 x.2).lt k I;have h2:k=w.heap.size+1+1+1+1:=e;omega)];rfl)
  have ec:V.cell? ⟨x.1.q,0,b_⟩=c_ (a_ A2 x.1.f.data.length c2):=by rw[hV,JA _ _ _ _ (λe=>a2 (by injection e))];exact g0
  have ee:V.cell? ⟨x.1.q,1,b_⟩=c_ (.int d_ x.1.f.safe):=by rw[hV,JA _ _ _ _ (λe=>a2 (by injection e))];exact g1
  rw[<-hV]at bm bn bo;have HV:=Z_ hV;clear hV q2 b3 c4 c7 c8 f8 g0 g1;have ct:=Z_ bm;clear bm;have b6:=Z_ bn;clear bn;have cu:=Z_ bo;clear bo;have cv:=Z_ b5;clear b5;have q1:d_.wrap ((x.1.f.data.length:Int) - x.1.f.safe)=((x.1.f.data.length - x.1.f.safe:Nat):Int):=by rw[IntWalk.i64_in _ O_];omega
  refine cV K_ K_ K_ ?_
  repeat (any_goals (first|go_big_quiet_step (fail)|quiet_step (fail)))
  all_goals(refine wpQuiet_nil ?_;intro _ av;obtain⟨cx,J⟩:=av;subst J)
  clear q1;gi_wp2;have bj:(x.1.f.safe:Int)+min (max xk 0) ((x.1.f.data.length - x.1.f.safe:Nat):Int)=((mi (kl keeps (pre.map λx=>x.1.f).length) x.1.f:Nat):Int):=by
   unfold mi kl;rw[I_ Z,KL,<-HJ.o,cr.o];omega
  rw[bj];refine qK (ct.o.drewN cx) x.1 (cv.o.block (λ_ _=>rfl)) bO bR (by simp;omega) rfl (λa w3 h1 h2 h3=>?_) _ rfl rfl rfl rfl rfl;refine⟨⟨Kj b6.o.size h2.size,λk o hB I hc=>h2.same k o O_ (b6.o.same k o O_ I hc) hc⟩,rk cu.o h3,?_⟩;show ej w aa keeps (a_ (c_ ⟨bk,ok,b_⟩) keeps.length c) (if keeps.length=0 then 0 else(pre++[x]).length) ((pre++[x]).map λx=>x.1.f) w3;rw[I_ Z,Lb,p_];exact h1
 case done=>
  rintro D ys W hD rfl G hK;have c7:=G.b7.cell;have HI:=Z_ G;clear G;gi_wp2;refine⟨by simp,.inl ⟨_,_,rfl,run_takeDeferred hK,?_⟩⟩;have hY:=HI.o.kept (grownBy_putObj' W D (.deferred b_)) (λr e=>by cases e;exact⟨by omega,_,hK,rfl⟩);obtain⟨zs,cB,cb,cE⟩:=hY.fs;refine⟨_,results_tmp rfl _ _ _,w.heap.size+1+1,ek (w.heap.size+1+1) (w+1) zs,rfl,⟨zs,w.heap.size+1,?_,cb,rfl⟩,λk I=>⟨?_,cb.lt k I⟩,hY.below⟩
  ·rw[cB]
   have he:(xs.attach.map λx=>x.1.f)=st.files:=by rw[bf.o];simp
   rw[he,su keeps (by rw[bf.o];exact MH.2 M.rising)];rfl
  rcases I with rfl|rfl|⟨y,hy,I⟩
  ·omega
  ·omega
  have:=cE y hy k I;omega
 rintro D c pre W _ _ h _;exact h.elim
open Go.RowKit Go.Par Go.Vfs
theorem cY(v:m_)(l:List UInt8)(B:Nat)(w:j_)(G:bw w B v (l_ l))(U:B<=w)(X:l.length<=1000000):
  H_ h_ 12 #[v] w λe w'=>∃u,e=k_ u/\Par.Own w' w 5 u (l_ l)/\n_ w w w':=by
 have j:=Par.Own.new w w 5 #[] [] rfl L_ (by simp);have I:n_ w w (w.alloc (f_ #[] 5)):=(JG _ w).alloc L_ _;have J:=G.below (I.mono U);clear G;go_enter Tryz.func12,Tryz.ntmps12;go_wp2_with (at_builtin;refine aE _ rfl _ _ _ rfl w 5 _ fD _ _ rfl j _ v _ rfl J (aZ _) ?c1 ?c2 ?_)
 case c1=>rw[t_];simp only[JP];omega
 case c2=>first|omega|(simp;done)|(simp;omega)
 intro v3 w3 D M O;go_wp2;go_ret;exact⟨_,rfl,by simpa using D,dW I j M (by simp)⟩
theorem jg(u v:m_)(xs D:List UInt8)(B:Nat)(w:j_)(hu:bw w B u (l_ xs))(hv:bw w B v (l_ D)):
  H_ h_ 40 #[u,v] w λe w'=>e=k_ (u_ (decide (xs=D)))/\∃n,w'=w.drewN n:=by
 obtain⟨A,c,rfl,hc,hm,X⟩:=hu.bq;obtain⟨A',c',rfl,av,a1,G⟩:=hv.bq;clear hu hv;by_cases J:xs.length=D.length
 ·have Y:((xs.length:Int) !=(D.length:Int))=false:=by simp[J]
  have U:=Z_ J;clear J;go_enter Tryz.func40,Tryz.ntmps40;go_wp2
  go_loopw [5] (λi wr=>∃k n:Nat,k<=xs.length/\i=e_ d_ k/\jl k xs D/\wr=w.drewN n) (λi _=>xs.length - (intOf i).toNat)
  case atStart=>exact⟨0,0,by omega,rfl,jl.zero _ _,rfl⟩
  obtain⟨k,n,hk,rfl,I,rfl⟩:=hrel;by_cases M:k<xs.length
  ·have j:k<D.length:=by have:=U.o;omega
   obtain⟨b,off,x,rfl,hb,a2,hx,Hx⟩:=X.byte M;obtain⟨b',ak,y,rfl,ba,bb,hy,Hy⟩:=G.byte j;have HA:=Z_ X;clear X;have bd:=Z_ G;clear G;by_cases he:x=y
   ·have Z:((x:Int) !=(y:Int))=false:=by simp[he]
    have He:=Z_ he;clear he;go_wp2
    go_quiet (fail)
    go_wp2;go_roundw
    case rel=>exact⟨k+1,_,by omega,by go_num,I.step M j 0 (LD.1 (by rw[Hx.o,Hy.o,He.o])),rfl⟩
    simp[intOf];omega
   have Z:((x:Int) !=(y:Int))=true:=by simp;omega
   have He:=Z_ he;clear he;go_wp2
   go_quiet (fail)
   go_wp2;go_ret;refine⟨jG ?_,_,World.drewN_drewN _ _ _⟩;have h1:=Hx.o;have h2:=Hy.o;have h3:=He.o;simp;rintro rfl;exact h3 (h1.symm.trans h2)
  have O:k=xs.length:=by omega
  have Hk:=Z_ O;clear O;go_wp2;go_ret;refine⟨jG ?_,_,rfl⟩;rw[Hk.o]at I;simp[I.whole U.o]
 have Y:((xs.length:Int) !=(D.length:Int))=true:=by simp;omega
 have U:=Z_ J;clear J;go_enter Tryz.func40,Tryz.ntmps40;go_wp2;go_ret;refine⟨jG ?_,0,rfl⟩;have:=U.o;simp;rintro rfl;exact this rfl
theorem bw.open_strs(h:bw w B v (strs ls)):
  ∃A c,v=a_ A ls.length c/\ls.length<=c/\c<=9223372036854775807/\At w B A ls.length (λi=>g_ ⟨(ls.getD i []).toArray⟩):=by
 obtain⟨A,c,rfl,h2,D,j⟩:=h;rw[iW]at h2 j;refine⟨A,c,by rw[iW],h2,by simpa[JT]using D,λi hi=>?_⟩;obtain⟨b,off,e,G,hc⟩:=j O_;refine⟨b,off,e,G,(hc i hi).trans ?_⟩;simp[strs,hi,s_]
theorem At.str{k:Nat}(h:At w B A n (λi=>g_ ⟨(ls.getD i []).toArray⟩))(j:k<n):
  ∃b off x,A=c_ ⟨b,off,b_⟩/\b<B/\w.cell? ⟨b,off+k,b_⟩=c_ (g_ ⟨x.toArray⟩)/\Hid (ls.getD k []=x):=by
 obtain⟨b,off,e,D,hc⟩:=h k j;exact⟨b,off,_,e,D,hc,Z_ rfl⟩
open Go.RowKit Go.Lib Go.Vfs Go.Par
theorem a8.new(G:∀k,F k->k<w.heap.size)(xs:List m_)(cs:Array m_)(j:cs=xs.toArray)(n:Nat)(hn:xs.length=n)(hm:n<=JT)(t:Ki)(D:Nat×Nat)(g:Nat)(I:g=w.heap.size):
  a8 (Out (w.alloc (f_ cs t D)) F) (w.alloc (f_ cs t D)) (a_ (c_ ⟨g,0,b_⟩) n n) xs:=by
 subst j hn I;refine⟨_,_,rfl,Kh _,hm,λ_=>⟨_,_,rfl,⟨by simp,λh=>by have:=G _ h;omega⟩,λi hi=>?_⟩⟩;rw[World.cell?_alloc_mark];simp
theorem a8.alloc(h:a8 (Out w F) w v xs)(o:Obj):a8 (Out (w.alloc o) F) (w.alloc o) v xs:=h.below ((JG _ w).alloc L_ _)
theorem Jw.below{st:St}(h:Jw w p st F)(j:n_ w w w'):Jw w' p st F:=h.ae λk D=>j.block k (h.lt k D)
theorem al.Hg(j:∀k,F k->k<w.heap.size)(h:a8 (Out w F) w v (l_ l))(g:Nat)(D:g=w.heap.size):
  al (Out (w.alloc (f_ #[v] 24)) F) (w.alloc (f_ #[v] 24)) (a_ (c_ ⟨g,0,b_⟩) 1 1) [l]:=
 ⟨[v],rfl,a8.new j [v] #[v] rfl 1 rfl (by decide) _ _ g D,λi hi=>by
  obtain rfl:i=0:=by simp at hi;omega
  exact a8.alloc h _⟩
theorem ca{key:α->List UInt8}(s:List UInt8)(y:α)(l:List α):aj key s (y::l)=if key y=s then c_ y else aj key s l:=by
 unfold aj;rw[List.find?_cons];by_cases h:key y=s
 ·simp[h]
 have:(key y==s)=false:=KN.2 h;rw[this,I_ h]
theorem lO{key:α->List UInt8}{x:α}(h:key x≠s):∀l:List α,aj key s (dm key x l)=aj key s l
 |[]=>by simp[dm,aj,h]
 |y::r=>by
  unfold dm;split
  ·rw[ca,I_ h]
  rw[ca,ca,lO h r]
theorem ke{key:α->List UInt8}{x:α}:∀l:List α,(∀y∈l,key y≠key x)->aj key (key x) (dm key x l)=c_ x
 |[],_=>by simp[dm,aj]
 |y::r,h=>by
  unfold dm;split
  ·rw[ca,G_ rfl]
  rw[ca,I_ (h y (by simp)),ke r (λz j=>h z (by simp[j]))]
theorem dJ{key:α->List UInt8}{t:List UInt8}(h:s≠t):∀l:List α,aj key s (an key t l)=aj key s l
 |[]=>rfl
 |y::r=>by
  have j:=dJ h r (key:=key);unfold an at j⊢;rw[M_];by_cases D:key y=t
  ·have:(!(key y==t))=false:=by simp[D]
   rw[this,ca,I_ (show¬key y=s from λe=>h (e.symm.trans D))];simpa using j
  have:(!(key y==t))=true:=by simp[D]
  rw[this,G_ rfl,ca,ca,j]
theorem jz{key:α->List UInt8}(s:List UInt8)(l:List α):aj key s (an key s l)=none:=by
 unfold aj an;rw[List.find?_eq_none];intro x hx;simpa using(List.mem_filter.1 hx).2
theorem eN{key:α->List UInt8}(x:α)(l:List α):aj key (key x) (aq key x l)=c_ x:=
 ke _ λy j=>(cq.1 j).2
theorem dw{key:α->List UInt8}{x:α}(h:key x≠s)(l:List α):aj key s (aq key x l)=aj key s l:=by
 unfold aq;rw[lO h,dJ (λe=>h e.symm)]
theorem dY{st:St}{f:af}(hn:bS s=v_)(h:aj af.name s st.files=c_ f):bH st s=.ok f:=by unfold bH;rw[hn,h];rfl
theorem gK{st:St}(hn:bS s=v_)(h:aj af.name s st.files=b_):bH st s=.error 11:=by unfold bH;rw[hn,h];rfl
theorem xF{st:St}{L:List UInt8}(h:bS s=o_):br st s L=(st,10):=by unfold br;rw[h];rfl
theorem DG(h:bS s=v_):s.length<=32:=by
 unfold bS at h;simp at h;exact h.1.2
def Ee(a c x y:List UInt8):St:=⟨-1,eJ c y [⟨a,x,0⟩]⟩
theorem m5{key:α->List UInt8}(x:α):∀l:List α,(dm key x l).length=l.length+1
 |[]=>rfl
 |y::r=>by unfold dm;split<;>simp[m5 x r]
theorem sA{key:α->List UInt8}(x:α)(l:List α):(aq key x l).length<=l.length+1:=by
 unfold aq;rw[m5];have:(an key (key x) l).length<=l.length:=KX _ _;omega
theorem below_drewN(h:n_ n w w')(k:Nat):n_ n w (w'.drewN k):=⟨h.os,h.tape,h.output,h.size,h.block⟩
theorem Own.Dj(h:Par.Own w base e v (l_ l)):∃A c,v=a_ A l.length c:=by
 obtain⟨A,c,e⟩:=h.form;exact⟨A,c,by rw[e,t_]⟩
theorem jE(h:Par.Own w base e v xs)(j:base<=w)(D:w.grownBy w' v.ownBlock):n_ base w w':=
 ((Kept.refl (λk=>base<=k) w).grown D (λk e=>.inl (h.lt k e).1)).below j (λ_ h=>h)
theorem gJ(A:Option Kb)(n c N:Nat)(w:j_)(h:N<=c):(Instr.slice 24 (a_ A n c) b_ (c_ (e_ d_ (N:Int))) b_).run h_ w=.ok (a_ A N c) w:=by
 have j:h_.underlying 24=c_ (.slice (h_.elem 24)):=by simp[K7,J9]
 have he:h_.elem 24=5:=by simp[K7,J9]
 rw[run_slice_h w 24 _ _ _ j d_ _ O_ O_,he,My];simp only[LK,sliced];cases A<;>simp[Addr.add]
theorem Ce{c:Nat}{r:List UInt8}(h:bw w B (a_ A (l++r).length c) (l_ (l++r))):l.length<=c/\bw w B (a_ A l.length c) (l_ l):=by
 obtain⟨M,O,e,h1,h2,j⟩:=h;rw[t_]at e h1 j;injection e with G U I;subst G I;have D:l.length<=c:=by simp at h1;omega
 refine⟨D,A,c,by rw[t_],by rw[t_];exact D,h2,λhp=>?_⟩;rw[t_]at hp;obtain⟨b,off,e,J,hc⟩:=j (by simp;omega);refine⟨b,off,e,J,λi hi=>?_⟩;rw[t_]at hi;rw[hc i (by simp;omega),byteCells_append,List.getElem?_append_left (by rw[t_];exact hi)]
end Go.Proofs.YtaalbcfpacpgfaaGreat
namespace Go.Par
open Go.RowKit Go.Lib
structure qi(P:K6)(t e:Ki)(z:m_)(bytes:Nat):Prop where
 CK:P.underlying t=c_ (.slice e)
 info:∃i,P.info? e=c_ i/\i.zero=c_ z/\i.size=1/\i.bytes=bytes
 one:z.cells.size=1
 EB:bytes<=64
variable{P:K6}{t e:Ki}{z:m_}
theorem qi.plain{bytes:Nat}(h:qi P t e z bytes):pP P t e z:=by
 obtain⟨i,h1,h2,j,D⟩:=h.info;exact⟨h.CK,⟨i,bytes,h1,h2,j,D,h.EB⟩,h.one⟩
theorem C9{b:Nat}(j:P.underlying t=c_ (.slice e))(h:(P.info? e).map (λi=>(i.zero,i.size,i.bytes))=c_ (c_ z,1,b))(D:b<=64)(h1:z.cells.size=1):qi P t e z b:=by
 obtain⟨i,hi,h0,h2,G⟩:=info_parts h;exact⟨j,⟨i,hi,h0,h2,G⟩,h1,D⟩
section
variable{P:K6}(w:j_)
variable{o:L8}{a:Mt}{Q:Exit->Mt->j_->Prop}
theorem D6(base:Nat)(t ty e:Ki)(z:m_)(bytes:Nat)(E:qi P t e z bytes)(v:m_)(xs:List m_)(D:Own w base e v xs)
  (B:Nat) (u:m_) (news:List m_) (hs:bw w B u news) (h1:∀x∈news,x.oneCell'=v_)
  (J:(xs.length+news.length)*bytes<=140737488355328) (M:1<=bytes) (I:base<=w):
  ∃v' w',(L0 #[t,t] ty #[v,u]).run P w=.ok v' w'/\Own w' base e v' (xs++news)/\w.grownBy w' v.ownBlock/\
   (v'.ownBlock=v.ownBlock\/v'.ownBlock=c_ w.heap.size):=by
 obtain⟨i,hi,Z,O,U⟩:=E.info;have Y:xs.length+news.length<=140737488355328:=Kj (Nat.le_mul_of_pos_right _ M) J;obtain⟨A,c,rfl,hc,hm,ha⟩:=hs;have key:∀ad:Kb,A=c_ ad->(∀j x,news[j]?=c_ x->w.cell? (ad.add j)=c_ x)->∃v' w',(L0 #[t,t] ty #[v,a_ A news.length c]).run P w=.ok v' w'/\Own w' base e v' (xs++news)/\w.grownBy w' v.ownBlock/\
   (v'.ownBlock=v.ownBlock\/v'.ownBlock=c_ w.heap.size):=by
  rintro ad rfl G;have X:=J;obtain⟨v',w',hr,h2,h3,_,h5⟩:=MJ (P:=P) w base t ty e i z 1 bytes E.CK hi Z O U E.one (by decide) v xs.length xs D ad news.length c news (by simp) G h1 (by simp only[JT];omega) X I;refine⟨v',w',hr,?_,h3,h5⟩;unfold Own;rw[p_];exact h2
 rcases Nat.eq_zero_or_pos news.length with h0|hp
 ·have hn:news=[]:=JH h0
  subst hn;rcases A with _|ad
  ·exact⟨v,w,pE w base t ty e z E.plain v xs D c,by simpa using D,World.grownBy.refl w _,.inl rfl⟩
  exact key ad rfl (λj x hj=>by simp at hj)
 obtain⟨b,off,rfl,_,hcell⟩:=ha hp;refine key _ rfl (λj x hj=>?_);rw[cS,hcell j (LG.1 hj).1];exact hj
theorem Fy{K:Mt->j_->Prop}(s x:MA)(t:Ki)
  (O:o.op=.call {callee:=.builtin .append,args:=#[s,x],argTypes:=#[t,t]})
  (base:Nat) (e:Ki) (z:m_) (bytes:Nat) (E:qi P t e z bytes) (v:m_) (xs:List m_) (hs:a.eval s=v) (D:Own w base e v xs)
  (B:Nat) (u:m_) (news:List m_) (hx:a.eval x=u) (J:bw w B u news) (h1:∀x∈news,x.oneCell'=v_)
  (M:(xs.length+news.length)*bytes<=140737488355328) (G:1<=bytes) (j:base<=w)
  (h:∀v' w',Own w' base e v' (xs++news)->w.grownBy w' v.ownBlock->(v'.ownBlock=v.ownBlock\/v'.ownBlock=c_ w.heap.size)->K (a.put o.dst v') w'):o.wp P a w K Q:=by
 obtain⟨v',w',I,h2,U,X⟩:=D6 (P:=P) w base t o.type e z bytes E v xs D B u news J h1 M G j;unfold Oper.wp Ld;simp only[O,resolve,invoke,builtin,MM,MC,LS,L9,Ks,Lf,hs,hx,I];exact h v' w' h2 U X
theorem xP{ops:Array L8}{rest:List L8}(I:o.guard=b_)(s x:MA)(t:Ki)
  (O:o.op=.call {callee:=.builtin .append,args:=#[s,x],argTypes:=#[t,t]})
  (base:Nat) (e:Ki) (z:m_) (bytes:Nat) (E:qi P t e z bytes) (v:m_) (xs:List m_) (hs:a.eval s=v) (D:Own w base e v xs)
  (B:Nat) (u:m_) (news:List m_) (hx:a.eval x=u) (J:bw w B u news) (h1:∀x∈news,x.oneCell'=v_)
  (M:(xs.length+news.length)*bytes<=140737488355328) (G:1<=bytes) (j:base<=w)
  (h:∀v' w',Own w' base e v' (xs++news)->w.grownBy w' v.ownBlock->(v'.ownBlock=v.ownBlock\/v'.ownBlock=c_ w.heap.size)->wpList P ops Q rest (a.put o.dst v') w'):wpList P ops Q (o::rest) a w:=
 wpList_plain I λ_ U=>Fy w s x t O base e z bytes E v xs hs D B u news hx J h1 M G j λv' w' h2 X Y=>U _ _ (h v' w' h2 X Y)
end
end Go.Par
namespace Go.Proofs.YtaalbcfpacpgfaaGreat
open Go.RowKit Go.Lib Go.Vfs Go.Par
variable{w:j_}{u:m_}{k d:Nat}{s:List UInt8}
theorem IW:qi h_ 67 3 (e_ d_ 0) 8:=C9 Tryz.underlying67 K_ (by decide) rfl
theorem uc(v:m_)(M:List Int)(B:Nat)(w:j_)(G:bw w B v (ints M))(X:B<=w)(Y:M.length<=17592186043904):
  H_ h_ 26 #[v] w λe w'=>∃u,e=k_ u/\Par.Own w' w 3 u (ints M)/\n_ w w w':=by
 have j:=Par.Own.new w w 3 #[] [] rfl L_ (by simp);have I:n_ w w (w.alloc (f_ #[] 3)):=(JG _ w).alloc L_ _;have J:=G.below (I.mono X);clear G;go_enter Tryz.func26,Tryz.ntmps26;go_wp2_with (at_builtin;refine xP _ rfl _ _ _ rfl w 3 _ 8 IW _ _ rfl j _ v _ rfl J (wI _) ?c1 (by decide) ?c2 ?_)
 case c1=>rw[ew];simp only[JP];omega
 case c2=>first|omega|(simp;done)|(simp;omega)
 intro v3 w3 D O U;go_wp2;go_ret;exact⟨_,rfl,by simpa using D,dW I j O (by simp)⟩
theorem j8:pP h_ 22 24 (a_ b_ 0 0):=mT (b:=24) Tryz.underlying22 K_ (by decide) rfl
structure Rowed(w:j_)(ls:List (List UInt8))(k:Nat)(v:m_)(us:List m_)(wr:j_):Prop where
 below:n_ w.heap.size w wr
 len:us.length=k
 own:Par.Own wr w.heap.size 24 v us
 cells:∀i,i<k->a8 (λb=>w.heap.size<=b/\b<wr.heap.size/\v.ownBlock≠c_ b) wr (us.getD i (u_ o_)) (l_ (ls.getD i []))
theorem eB{S:Nat->Prop}{l:List UInt8}(h:a8 S w u (l_ l)):u.oneCell'=true:=by
 obtain⟨A,c,rfl,-⟩:=h;rfl
theorem Rowed.next{ls:List (List UInt8)}{v:m_}{us:List m_}{wr D w3:j_}(h:Rowed w ls k v us wr)(O:n_ wr wr D)(hu:Par.Own D wr 5 u (l_ (ls.getD k [])))
  {v':m_} (o:Obj) (G:Par.Own w3 w 24 v' (us++[u])) (M:(D.alloc o).grownBy w3 v.ownBlock) (I:v'.ownBlock=v.ownBlock\/v'.ownBlock=c_ (D.heap.size+1)):Rowed w ls (k+1) v' (us++[u]) w3:=by
 have hz:=h.below.size;have ak:=O.size;have U:∀g,v.ownBlock=c_ g->w.heap.size<=g/\g<wr.heap.size:=λg e=>h.own.lt g e
 have av:=M.size;have a1:(D.alloc o).heap.size=D.heap.size+1:=by simp
 have X:∀b,b<wr.heap.size->v.ownBlock≠c_ b->v'.ownBlock≠c_ b:=by
  intro b a2 Y e;rcases I with j|j
  ·exact Y (j.symm.trans e)
  rw[j]at e;cases e;omega
 refine⟨?_,by simp[h.len],G,λi hi=>?_⟩
 ·exact((h.below.trans (O.mono hz)).alloc O_ o).grown M O_ (λg e=>(U g e).1)
 by_cases J:i<k
 ·rw[show(us++[u]).getD i (u_ o_)=us.getD i (u_ o_) by simp[s_,Kx,h.len,J]]
  refine(h.cells i J).ae λb ⟨b1,Z,b3⟩=>⟨⟨b1,by omega,X b Z b3⟩,?_⟩
  rw[M.block b O_ (λe=>b3 e.symm),z_ _ _ _ O_,O.block b Z]
 have:i=k:=by omega
 subst this;rw[show(us++[u]).getD i (u_ o_)=u by simp[s_,Kx,h.len]];have hs:=Own.jf hu (F:=λk=>k<wr.heap.size) (λk hk=>hk);refine hs.ae λb ⟨b1,Z⟩=>⟨⟨by omega,by omega,λe=>?_⟩,?_⟩
 ·rcases I with j|j
  ·have:=U b (j.symm.trans e);omega
  rw[j]at e;cases e;omega
 rw[M.block b O_ (λe=>by have:=U b e.symm;omega),z_ _ _ _ O_]
theorem ud(v:m_)(ls:List (List UInt8))(B:Nat)(w:j_)(bt:al (·<B) w v ls)(hB:B<=w)(hl:ls.length<=1048576)(bd:∀l∈ls,l.length<=1000000):
  H_ h_ 101 #[v] w λe w'=>∃u,e=k_ u/\al (λb=>w.heap.size<=b/\b<w'.heap.size) w' u ls/\n_ w w w':=by
 obtain⟨vs,bf,⟨A,c,rfl,hc,hm,bg⟩,D⟩:=bt;have b0:c<=9223372036854775807:=by simpa[JT]using hm
 have bx:=Z_ bg;clear bg;have HR:=Z_ D;clear D;have O:=Z_ bf;clear bf;have bB:=Z_ bd;clear bd;have av:=Par.Own.new w w 24 #[] [] rfl L_ (by simp);have bj:n_ w w (w.alloc (f_ #[] 24)):=(JG _ w).alloc L_ _;have H0:Hid (Rowed w ls 0 _ [] _):=Z_ ⟨bj,rfl,av,λi hi=>by omega⟩;clear av bj;go_enter Tryz.func101,Tryz.ntmps101;go_wp2
 go_loopw [3,4] (λs i wr=>∃(k:Nat) (us:List m_),k<=vs.length/\i=e_ d_ k/\Hid (Rowed w ls k s us wr)) (λ_ i _=>vs.length - (intOf i).toNat)
 case atStart=>exact⟨0,[],by omega,rfl,H0⟩
 obtain⟨k,us,hk,rfl,j⟩:=hrel;obtain⟨As,cs,G⟩:=j.o.own.form;rw[j.o.len]at G;subst G;by_cases U:k<vs.length
 ·obtain⟨b,off,rfl,hb,hcell⟩:=bx.o O_
  have b1:wr.cell? ⟨b,off+k,b_⟩=c_ (vs.getD k (u_ o_)):=by
   rw[j.o.below.cell (p:=⟨b,off+k,b_⟩) (by show b<_;omega),hcell k U,s_,w_ U];rfl
  have bk:bw wr B (vs.getD k (u_ o_)) (l_ (ls.getD k [])):=bw.below (B:=B) (HR.o k (by rw[<-O.o];exact U)) (j.o.below.mono hB);have I:k<ls.length:=by rw[<-O.o];exact U
  have hL:(ls.getD k []).length<=1000000:=by
   rw[s_,w_ I];exact bB.o _ (JB I)
  generalize bm:ls.getD k []=L at*;have bN:=Z_ bm;have bb:=Z_ bk;clear bk hcell bm;obtain⟨Au,cu,bO,-⟩:=bb.o;have hz:=j.o.below.size;generalize vs.getD k (u_ o_)=u at*;subst bO;go_wp2_with fail;refine(cY _ L B wr bb.o O_ hL).mono ?_;rintro e w2 ⟨u2,rfl,X,Y⟩;have J:=(j.o.own.below Y).alloc (f_ #[u2] 24);have a1:=eB (Own.jf X (F:=λ_=>False) (λ_ h=>h.elim));have a2:=bw.new w2 24 #[u2] [u2] rfl (by simp[JT]);obtain⟨A2,c2,Z⟩:=X.form;have bn:=Z_ X;have bo:=Z_ Y;have b2:=Y.size;have hlen:=j.o.len;have bR:=Z_ hlen;clear X Y bb;subst Z;go_wp2_with (at_builtin;refine aE _ rfl _ _ _ rfl w 24 _ j8 _ _ rfl J _ _ _ rfl a2 (λx hx=>by simp at hx;subst hx;exact a1) ?c1 ?c2 ?_)
  case c1=>simp;omega
  case c2=>simp;omega
  intro v3 w3 M bp ba;have HN:=Z_ (j.o.next bo.o (by rw[bN.o];exact bn.o) _ M bp ba);clear M bp ba;obtain⟨A3,c3,ak⟩:=HN.o.own.form;subst ak;clear bn bo J a1 a2;go_wp2;go_roundw
  case rel=>exact⟨k+1,_,by omega,by go_num,HN⟩
  simp[intOf];omega
 have I:k=vs.length:=by omega
 go_wp2;go_ret;refine⟨_,rfl,⟨us,by rw[j.o.len,I,O.o],?_,λi hi=>?_⟩,j.o.below⟩
 ·have:=Own.jf j.o.own (F:=λk=>k<w.heap.size) (λk hk=>hk)
  exact this.ae λb hb=>⟨⟨by have:=hb.2;omega,hb.1⟩,rfl⟩
 exact(j.o.cells i (by rw[I,O.o];exact hi)).ae λb hb=>⟨⟨hb.1,hb.2.1⟩,rfl⟩
theorem ah(w:j_)(o:Obj):n_ w w (w.alloc o):=(JG _ w).alloc L_ _
theorem vU{st:St}{e:Int}(h:bH st s=.error e):e≠0:=by
 unfold bH at h;split at h
 ·split at h
  ·cases h
  cases h;decide
 cases h;decide
theorem EW{st:St}{f:af}(h:bH st s=.ok f):f∈st.files/\f.name=s/\bS s=true:=by
 unfold bH at h;split at h
 ·rename_i hn
  split at h
  ·rename_i g j
   cases h;have:=aV j;exact⟨this.1,this.2,hn⟩
  cases h
 cases h
structure Calm(fs:List af)(k d:Nat):Prop where
 files:fs.length<=k
 names:∀f∈fs,bS f.name=v_
 data:∀f∈fs,f.data.length<=d
 safe:∀f∈fs,f.safe<=f.data.length
theorem Calm.nil:Calm [] 0 0:=⟨by simp,by simp,by simp,by simp⟩
theorem Calm.mono{fs:List af}{j D:Nat}(h:Calm fs k d)(G:k<=j)(I:d<=D):Calm fs j D:=⟨Kj h.files G,h.names,λf J=>Kj (h.data f J) I,h.safe⟩
theorem Calm.aq{fs:List af}(h:Calm fs k d){f:af}(hn:bS f.name=v_)(D:f.data.length<=d)(hs:f.safe<=f.data.length):Calm (aq af.name f fs) (k+1) d:=by
 refine⟨?_,λg j=>?_,λg j=>?_,λg j=>?_⟩
 ·have:=sA (key:=af.name) f fs;have:=h.files;omega
 ·rcases cP.1 j with rfl|⟨j,-⟩;exact hn;exact h.names g j
 ·rcases cP.1 j with rfl|⟨j,-⟩;exact D;exact h.data g j
 rcases cP.1 j with rfl|⟨j,-⟩;exact hs;exact h.safe g j
theorem Calm.an{fs:List af}(h:Calm fs k d)(s:List UInt8):Calm (an af.name s fs) k d:=
 ⟨Kj (KX _ _) h.files,λg j=>h.names g (cq.1 j).1,λg j=>h.data g (cq.1 j).1,λg j=>h.safe g (cq.1 j).1⟩
theorem Calm.app{fs:List af}(h:Calm fs k d){L:List UInt8}(hn:bS s=v_):Calm (eJ s L fs) (k+1) (d+L.length):=by
 unfold eJ;refine(h.mono L_ (Nat.le_add_right d L.length)).aq ?_ ?_ ?_
 ·split<;>exact hn
 ·split
  ·rename_i f j;have:=h.data f (aV j).1;simp;omega
  simp
 split
 ·rename_i f j;have:=h.safe f (aV j).1;simp;omega
 simp
theorem Calm.modest{st:St}{n:Nat}(h:Calm st.files k d)(hp:st.aa<=9223372036854775807)(D:k<2147483648)(G:d+n<=2147483648):Modest st n:=
 ⟨λf j=>by have:=h.data f j;omega,by omega,by have:=h.files;omega,hp⟩
theorem mj(x:Int):dec x<=x:=by unfold dec;split<;>omega
