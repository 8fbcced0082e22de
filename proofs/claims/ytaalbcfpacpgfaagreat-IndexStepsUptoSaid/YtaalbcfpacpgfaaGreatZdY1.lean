import Derived.Deep.CutBlock
import Derived.Deep.DeepCutAuto
import Derived.Deep.RegionHeld
import Derived.Test.YtaalbcfpacpgfaaGreatZdTA
import Derived.Test.YtaalbcfpacpgfaaGreatZdXA
set_option linter.all false
set_option maxHeartbeats 16000000
set_option maxRecDepth 100000
open Bool renaming false->o_,true->v_
open Go renaming Calls->H_,Value->m_,World->j_,maxLen->JT
open Go.Ending renaming returned->k_
open Go.IntKind renaming i64->d_
open Go.Obj renaming cells->f_
open Go.Proofs.Tryz renaming prog->h_
open Go.RowKit renaming Below->n_,Hid->x_,intOf->A_
open Go.Value renaming agg->JI,bool->u_,int->e_,slice->a_,string->g_,tuple->J_
open Go.World renaming cell?->E_
open Option renaming none->b_,some->c_
open Or renaming inl->Ke
namespace Go.Typ
def oH(n:Nat):Bool:=decide (n=32\/n=9\/n=10\/n=13)
end Go.Typ
namespace Go.Proofs.YtaalbcfpacpgfaaGreat
open Go.RowKit Go.Lib Go.Vfs Go.Par Go.Typ
theorem gG(x:Nat)(w:j_):H_ h_ 195 #[e_ .u8 x] w λe w'=>e=k_ (u_ (bU x))/\w'=w:=by
 by_cases h1:(97:Int)<=x
 ·by_cases h2:(x:Int)<=122
  ·have h:bU x=true:=JR O_
   rw[h];clear h;go_enter Tryz.func195,Tryz.ntmps195;go_wp2;go_ret;exact⟨rfl,rfl⟩
  have h:bU x=false:=JJ O_;rw[h];clear h;go_enter Tryz.func195,Tryz.ntmps195;go_wp2;go_ret;exact⟨rfl,rfl⟩
 have h:bU x=false:=JJ O_;rw[h];clear h;go_enter Tryz.func195,Tryz.ntmps195;go_wp2;go_ret;exact⟨rfl,rfl⟩
theorem iU(x:Nat)(w:j_):H_ h_ 196 #[e_ .u8 x] w λe w'=>e=k_ (u_ (cR x))/\w'=w:=by
 by_cases h1:(65:Int)<=x
 ·by_cases h2:(x:Int)<=90
  ·have h:cR x=true:=JR O_
   rw[h];clear h;go_enter Tryz.func196,Tryz.ntmps196;go_wp2;go_ret;exact⟨rfl,rfl⟩
  have h:cR x=false:=JJ O_;rw[h];clear h;go_enter Tryz.func196,Tryz.ntmps196;go_wp2;go_ret;exact⟨rfl,rfl⟩
 have h:cR x=false:=JJ O_;rw[h];clear h;go_enter Tryz.func196,Tryz.ntmps196;go_wp2;go_ret;exact⟨rfl,rfl⟩
theorem iT(x:Nat)(w:j_):H_ h_ 197 #[e_ .u8 x] w λe w'=>e=k_ (u_ (ea x))/\w'=w:=by
 by_cases h1:(48:Int)<=x
 ·by_cases h2:(x:Int)<=57
  ·have h:ea x=true:=JR O_
   rw[h];clear h;go_enter Tryz.func197,Tryz.ntmps197;go_wp2;go_ret;exact⟨rfl,rfl⟩
  have h:ea x=false:=JJ O_;rw[h];clear h;go_enter Tryz.func197,Tryz.ntmps197;go_wp2;go_ret;exact⟨rfl,rfl⟩
 have h:ea x=false:=JJ O_;rw[h];clear h;go_enter Tryz.func197,Tryz.ntmps197;go_wp2;go_ret;exact⟨rfl,rfl⟩
theorem pq(x:Nat)(w:j_):H_ h_ 180 #[e_ .u8 x] w λe w'=>e=k_ (u_ (oH x))/\w'=w:=by
 have key:∀c:Nat,((x:Int)==(c:Int))=decide (x=c):=λc=>by
  by_cases h:x=c
  ·subst h;simp
  have:¬(x:Int)=c:=by omega
  simp[h,this]
 have D:((x:Int)==32)=decide (x=32):=key 32;have G:((x:Int)==9)=decide (x=9):=key 9;have I:((x:Int)==10)=decide (x=10):=key 10;have J:((x:Int)==13)=decide (x=13):=key 13;have t:x_ (oH x=(decide (x=32)||decide (x=9)||decide (x=10)||decide (x=13))):=Z_ (by unfold oH;simp only[Bool.decide_or,Bool.or_assoc]);rw[t.o];clear key;go_enter Tryz.func180,Tryz.ntmps180;go_wp2;all_goals go_ret
 all_goals refine⟨J7 (λb=>k_ (u_ b)) (?_:_=_),rfl⟩
 all_goals simp_all
end Go.Proofs.YtaalbcfpacpgfaaGreat
namespace Go.Typ
def xY(s:ByteArray)(i:Nat)(wd:List UInt8):Bool:=wd.isPrefixOf (s.data.toList.drop i)
end Go.Typ
namespace Go.Proofs.YtaalbcfpacpgfaaGreat
open Go.RowKit Go.Lib Go.Vfs Go.Par Go.Typ
variable{s:ByteArray}{i j k B e n:Nat}{W w:j_}{v:m_}{xs:List m_}
theorem qT(s:ByteArray)(i j:Nat):(s.extract i j).data.toList=(s.data.toList.drop i).take (j - i):=by
 rw[ByteArray.data_extract,Array.toList_extract]
theorem Gk(s wd:ByteArray)(i:Nat)(h:i+wd.size<=s.size):(s.extract i (i+wd.size)=wd)↔xY s i wd.data.toList=true:=by
 have t:wd.data.toList.length=wd.size:=by rw[Ko];rfl
 unfold xY;rw[List.isPrefixOf_iff_prefix];constructor
 ·intro e
  have:wd.data.toList=(s.data.toList.drop i).take wd.size:=by rw[<-e,qT,e,Lu]
  rw[this];exact List.take_prefix _ _
 intro h;have e:=List.prefix_iff_eq_take.1 h;apply L7;apply Ll.mp;rw[qT,Lu,e,t]
theorem p7{wd:List UInt8}(h:xY s i wd=v_)(hw:0<wd.length):i+wd.length<=s.size:=by
 unfold xY at h;rw[List.isPrefixOf_iff_prefix]at h;have:=h.length_le;have hs:s.data.toList.length=s.size:=by rw[Ko];rfl
 rw[Kr,hs]at this;omega
theorem nj(s wd:ByteArray)(i:Nat)(hs:s.size<=9223372036854775000)(hi:i<=s.size)(hw:wd.size<=100)(I:0<wd.size)(w:j_):
  H_ h_ 181 #[g_ s,e_ d_ i,g_ wd] w λe w'=>e=k_ (u_ (xY s i wd.data.toList))/\∃n,w'=w.drewN n:=by
 have K:wd.data.toList.length=wd.size:=by rw[Ko];rfl
 by_cases h:i+wd.size<=s.size
 ·have t:=Gk s wd i h
  have G:((i:Int)+(wd.size:Int)<=(s.size:Int)):=by omega
  have D:((s.extract i (i+wd.size)).toList==wd.toList)=xY s i wd.data.toList:=by
   rw[Bool.eq_iff_iff,beq_iff_eq,KY,KY,<-t];exact⟨λe=>L7 (Ll.mp e),λe=>by rw[e]⟩
  clear t;go_enter Tryz.func181,Tryz.ntmps181;go_wp2;go_ret;exact⟨by rw[<-D];rfl,0,rfl⟩
 have t:xY s i wd.data.toList=false:=by
  cases J:xY s i wd.data.toList with
  |false=>rfl
  |true=>have:=p7 J O_;omega
 have G:¬((i:Int)+(wd.size:Int)<=(s.size:Int)):=by omega
 rw[t];clear t;go_enter Tryz.func181,Tryz.ntmps181;go_wp2;go_ret;exact⟨rfl,0,rfl⟩
theorem yR(s:ByteArray)(i:Nat)(hs:s.size<=9223372036854775000)(hi:i<=s.size)(w:j_):
  H_ h_ 182 #[g_ s,e_ d_ i] w λe w'=>∃j:Nat,e=k_ (e_ d_ j)/\(j=0\/(i<j/\j<=s.size))/\∃n,w'=w.drewN n:=by
 go_enter Tryz.func182,Tryz.ntmps182;go_wp2
 go_loopw [1,5] (λK Y W=>∃(k:Nat) (d:Int),K=e_ d_ k/\Y=e_ d_ d/\i<=k/\k<=s.size/\-(k:Int)<=d/\d<=(k:Int)/\∃n,W=w.drewN n) (λK _ _=>s.size - (A_ K).toNat)
 case atStart=>exact⟨i,0,rfl,rfl,Kh _,hi,by omega,by omega,0,rfl⟩
 obtain⟨k,d,rfl,rfl,Z,V,ad,ak,t,rfl⟩:=hrel;by_cases av:k<s.size
 ·have I:(k:Int)<(s.size:Int):=by omega
  have H1:=Z_ (nj s ⟨#[40,42]⟩ k hs V (by decide) (by decide) (w.drewN t));obtain⟨b1,D⟩:=N_ (xY s k [40,42]);rw[show(⟨#[40,42]⟩:ByteArray).data.toList=[40,42]from rfl,<-D]at H1;have M:=Z_ D;clear D;go_wp2_with fail;refine H1.o.mono ?_;rintro e w1 ⟨rfl,J,rfl⟩;cases b1 with
  |true=>
   have hle:=p7 M.o.symm (by decide);simp only[Jz,JP]at hle;go_wp2;go_roundw
   case rel=>exact⟨k+2,d+1,by go_num,rfl,by omega,by omega,by omega,by omega,t+J,rfl⟩
   simp[A_];omega
  |false=>
   have X:=Z_ (nj s ⟨#[42,41]⟩ k hs V (by decide) (by decide) (w.drewN (t+J)));obtain⟨b2,G⟩:=N_ (xY s k [42,41]);rw[show(⟨#[42,41]⟩:ByteArray).data.toList=[42,41]from rfl,<-G]at X;have O:=Z_ G;clear G;go_wp2_with fail;refine X.o.mono ?_;rintro e w2 ⟨rfl,U,rfl⟩;cases b2 with
   |true=>
    have hle:=p7 O.o.symm (by decide);simp only[Jz,JP]at hle;by_cases h0:d=1
    ·subst h0
     go_wp2;go_ret;exact⟨k+2,by go_num,.inr ⟨by omega,by omega⟩,t+J+U,rfl⟩
    have g0:(d - 1==0)=false:=by simp;omega
    go_wp2;go_roundw
    case rel=>exact⟨k+2,d - 1,by go_num,rfl,by omega,by omega,by omega,by omega,t+J+U,rfl⟩
    simp[A_];omega
   |false=>
    go_wp2;go_roundw
    case rel=>exact⟨k+1,d,by go_num,rfl,by omega,by omega,by omega,by omega,t+J+U,rfl⟩
    simp[A_];omega
 have I:¬((k:Int)<(s.size:Int)):=by omega
 go_wp2;go_ret;exact⟨0,rfl,.inl rfl,t,rfl⟩
theorem CC(w:j_):H_ h_ 198 #[] w λe w'=>e=k_ (JI #[g_ ⟨#[108,101,116]⟩,g_ ⟨#[114,101,99]⟩,g_ ⟨#[105,110]⟩,g_ ⟨#[102,117,110]⟩,g_ ⟨#[105,102]⟩,g_ ⟨#[116,104,101,110]⟩,g_ ⟨#[101,108,115,101]⟩,g_ ⟨#[109,97,116,99,104]⟩,g_ ⟨#[119,105,116,104]⟩,g_ ⟨#[116,121,112,101]⟩,g_ ⟨#[111,102]⟩,g_ ⟨#[116,114,117,101]⟩,g_ ⟨#[102,97,108,115,101]⟩])/\n_ w w w':=by
 obtain⟨D,t⟩:=N_ (w.alloc (f_ #[g_ ⟨#[108,101,116]⟩,g_ ⟨#[114,101,99]⟩,g_ ⟨#[105,110]⟩,g_ ⟨#[102,117,110]⟩,g_ ⟨#[105,102]⟩,g_ ⟨#[116,104,101,110]⟩,g_ ⟨#[101,108,115,101]⟩,g_ ⟨#[109,97,116,99,104]⟩,g_ ⟨#[119,105,116,104]⟩,g_ ⟨#[116,121,112,101]⟩,g_ ⟨#[111,102]⟩,g_ ⟨#[116,114,117,101]⟩,g_ ⟨#[102,97,108,115,101]⟩] 243));have G:n_ w w D:=by rw[t];exact B_.alloc L_ _
 have I:D.heap[w.heap.size]?=c_ (f_ #[g_ ⟨#[108,101,116]⟩,g_ ⟨#[114,101,99]⟩,g_ ⟨#[105,110]⟩,g_ ⟨#[102,117,110]⟩,g_ ⟨#[105,102]⟩,g_ ⟨#[116,104,101,110]⟩,g_ ⟨#[101,108,115,101]⟩,g_ ⟨#[109,97,116,99,104]⟩,g_ ⟨#[119,105,116,104]⟩,g_ ⟨#[116,121,112,101]⟩,g_ ⟨#[111,102]⟩,g_ ⟨#[116,114,117,101]⟩,g_ ⟨#[102,97,108,115,101]⟩] 243 (0,0)):=by rw[t];exact r_ _ _
 have f:∀j v,(#[g_ ⟨#[108,101,116]⟩,g_ ⟨#[114,101,99]⟩,g_ ⟨#[105,110]⟩,g_ ⟨#[102,117,110]⟩,g_ ⟨#[105,102]⟩,g_ ⟨#[116,104,101,110]⟩,g_ ⟨#[101,108,115,101]⟩,g_ ⟨#[109,97,116,99,104]⟩,g_ ⟨#[119,105,116,104]⟩,g_ ⟨#[116,121,112,101]⟩,g_ ⟨#[111,102]⟩,g_ ⟨#[116,114,117,101]⟩,g_ ⟨#[102,97,108,115,101]⟩]:Array m_)[j]?=c_ v->D.cell? ⟨w,j,b_⟩=c_ v:=λj v h=>by
  rw[<-h];simp[E_,I]
 go_enter Tryz.func198,Tryz.ntmps198;go_wp2;rw[<-t];have f0:=f 0 _ rfl;have f1:=f 1 _ rfl;have f2:=f 2 _ rfl;have f3:=f 3 _ rfl;have f4:=f 4 _ rfl;have f5:=f 5 _ rfl;have f6:=f 6 _ rfl;have f7:=f 7 _ rfl;have f8:=f 8 _ rfl;have f9:=f 9 _ rfl;have f10:=f 10 _ rfl;have f11:=f 11 _ rfl;have f12:=f 12 _ rfl;refine C_ (v:=JI #[g_ ⟨#[108,101,116]⟩,g_ ⟨#[114,101,99]⟩,g_ ⟨#[105,110]⟩,g_ ⟨#[102,117,110]⟩,g_ ⟨#[105,102]⟩,g_ ⟨#[116,104,101,110]⟩,g_ ⟨#[101,108,115,101]⟩,g_ ⟨#[109,97,116,99,104]⟩,g_ ⟨#[119,105,116,104]⟩,g_ ⟨#[116,121,112,101]⟩,g_ ⟨#[111,102]⟩,g_ ⟨#[116,114,117,101]⟩,g_ ⟨#[102,97,108,115,101]⟩]) (by simp[results,Tryz.results198,go_sem,f0,f1,f2,f3,f4,f5,f6,f7,f8,f9,f10,f11,f12]) rfl ?_;exact⟨rfl,G⟩
theorem Ci(w:j_):H_ h_ 199 #[] w λe w'=>e=k_ (JI #[g_ ⟨#[45,62]⟩,g_ ⟨#[58,58]⟩,g_ ⟨#[59,59]⟩,g_ ⟨#[40]⟩,g_ ⟨#[41]⟩,g_ ⟨#[44]⟩,g_ ⟨#[124]⟩,g_ ⟨#[61]⟩,g_ ⟨#[60]⟩,g_ ⟨#[43]⟩,g_ ⟨#[45]⟩,g_ ⟨#[42]⟩,g_ ⟨#[95]⟩])/\n_ w w w':=by
 obtain⟨D,t⟩:=N_ (w.alloc (f_ #[g_ ⟨#[45,62]⟩,g_ ⟨#[58,58]⟩,g_ ⟨#[59,59]⟩,g_ ⟨#[40]⟩,g_ ⟨#[41]⟩,g_ ⟨#[44]⟩,g_ ⟨#[124]⟩,g_ ⟨#[61]⟩,g_ ⟨#[60]⟩,g_ ⟨#[43]⟩,g_ ⟨#[45]⟩,g_ ⟨#[42]⟩,g_ ⟨#[95]⟩] 243));have G:n_ w w D:=by rw[t];exact B_.alloc L_ _
 have I:D.heap[w.heap.size]?=c_ (f_ #[g_ ⟨#[45,62]⟩,g_ ⟨#[58,58]⟩,g_ ⟨#[59,59]⟩,g_ ⟨#[40]⟩,g_ ⟨#[41]⟩,g_ ⟨#[44]⟩,g_ ⟨#[124]⟩,g_ ⟨#[61]⟩,g_ ⟨#[60]⟩,g_ ⟨#[43]⟩,g_ ⟨#[45]⟩,g_ ⟨#[42]⟩,g_ ⟨#[95]⟩] 243 (0,0)):=by rw[t];exact r_ _ _
 have f:∀j v,(#[g_ ⟨#[45,62]⟩,g_ ⟨#[58,58]⟩,g_ ⟨#[59,59]⟩,g_ ⟨#[40]⟩,g_ ⟨#[41]⟩,g_ ⟨#[44]⟩,g_ ⟨#[124]⟩,g_ ⟨#[61]⟩,g_ ⟨#[60]⟩,g_ ⟨#[43]⟩,g_ ⟨#[45]⟩,g_ ⟨#[42]⟩,g_ ⟨#[95]⟩]:Array m_)[j]?=c_ v->D.cell? ⟨w,j,b_⟩=c_ v:=λj v h=>by
  rw[<-h];simp[E_,I]
 go_enter Tryz.func199,Tryz.ntmps199;go_wp2;rw[<-t];have f0:=f 0 _ rfl;have f1:=f 1 _ rfl;have f2:=f 2 _ rfl;have f3:=f 3 _ rfl;have f4:=f 4 _ rfl;have f5:=f 5 _ rfl;have f6:=f 6 _ rfl;have f7:=f 7 _ rfl;have f8:=f 8 _ rfl;have f9:=f 9 _ rfl;have f10:=f 10 _ rfl;have f11:=f 11 _ rfl;have f12:=f 12 _ rfl;refine C_ (v:=JI #[g_ ⟨#[45,62]⟩,g_ ⟨#[58,58]⟩,g_ ⟨#[59,59]⟩,g_ ⟨#[40]⟩,g_ ⟨#[41]⟩,g_ ⟨#[44]⟩,g_ ⟨#[124]⟩,g_ ⟨#[61]⟩,g_ ⟨#[60]⟩,g_ ⟨#[43]⟩,g_ ⟨#[45]⟩,g_ ⟨#[42]⟩,g_ ⟨#[95]⟩]) (by simp[results,Tryz.results199,go_sem,f0,f1,f2,f3,f4,f5,f6,f7,f8,f9,f10,f11,f12]) rfl ?_;exact⟨rfl,G⟩
def ft(s:ByteArray)(i:Nat)(k j:Nat):Prop:=
 ((k=0/\j=0)\/(0<k/\k<=6/\i<j/\j<=s.size))/\(k=1->aY (s.extract i j).data.toList=v_)/\(i=0->aY s.data.toList=v_->k=1/\j=s.size)
def F9(s:ByteArray)(i j:Nat):Prop:=i<j/\j<=s.size/\(∀m,i<=m->m<j->kO v_ (bh s m)=v_)/\(j<s.size->kO v_ (bh s j)=o_)
theorem sT{m:Nat}(hj:j<=s.size)(hm:m<j - i):bh (s.extract i j) m=bh s (i+m):=by
 unfold bh;rw[qT,s_,Mb,G_ hm,List.getElem?_drop,<-s_]
theorem Ec(hj:j<=s.size):(s.extract i j).size=j - i:=by
 rw[ByteArray.size_extract];omega
theorem BG{x:Nat}(h:bU x=v_\/cR x=v_\/x=95):kO v_ x=true:=by
 unfold kO;rcases h with h|h|h
 ·simp[h]
 ·simp[h]
 subst h;rfl
theorem D7(h:F9 s i j):aY (s.extract i j).data.toList=((bU (bh s i)||decide (bh s i=95))&& !((s.extract i j).data.toList∈ey:Bool)):=by
 obtain⟨h1,h2,t,G⟩:=h;have I:=Ec (s:=s) (i:=i) h2;rw[iA O_,sT h2 O_,L5];have D:(s.extract i j).data.toList.all (λb=>kO v_ b.toNat)=true:=lh.2 λm hm=>by
  rw[sT h2 O_];exact t _ O_ O_
 rw[D,Bool.and_true]
theorem AH(h:F9 s 0 j)(hn:aY s.data.toList=v_):j=s.size/\s.extract 0 j=s:=by
 obtain⟨h1,h2,I,D⟩:=h;rw[iA O_]at hn;simp only[Ku]at hn;have G:=(lh (p:=kO v_)).1 hn.1.2;have hj:j=s.size:=by
  by_cases t:j<s.size
  ·have:=G j t
   rw[D t]at this;cases this
  omega
 subst hj;exact⟨rfl,iM s⟩
theorem jC(t:k<=6)(D:1<k)(h1:i<j)(h2:j<=s.size)(h:i=0->aY s.data.toList=o_):ft s i k j:=
 ⟨.inr ⟨by omega,t,h1,h2⟩,λe=>by omega,λe hn=>by rw[h e]at hn;cases hn⟩
theorem ok_none(h:i=0->aY s.data.toList=o_):ft s i 0 0:=
 ⟨.inl ⟨rfl,rfl⟩,(λe=>by cases e),λe hn=>by rw[h e]at hn;cases hn⟩
theorem DO(D:k<=6)(t:1<k)(h:F9 s i j)(hw:(s.extract i j).data.toList∈ey):ft s i k j:=
 jC D t h.1 h.2.1 λe=>by
  subst e;cases hn:aY s.data.toList with
  |false=>rfl
  |true=>
   have h1:=(AH h hn).2;rw[h1]at hw;have h2:=h.1;rw[iA (by have:=h.2.1;omega)]at hn;simp[hw]at hn
theorem DN(h:F9 s i j)(D:cR (bh s i)=v_):ft s i 2 j:=
 jC (by decide) (by decide) h.1 h.2.1 λe=>by
  subst e;refine kN (by have:=h.1;have:=h.2.1;omega) λt=>?_
  unfold cR at D;have D:=Kv D;rcases t with t|t
  ·unfold bU at t
   have t:=Kv t;omega
  omega
theorem E8(h:F9 s i j)(D:bU (bh s i)=v_\/bh s i=95)(hw:(s.extract i j).data.toList∉ey):ft s i 1 j:=by
 refine⟨.inr ⟨by decide,by decide,h.1,h.2.1⟩,λ_=>?_,λe hn=>?_⟩
 ·rw[D7 h,JJ hw]
  rcases D with t|t<;>simp[t]
 subst e;exact⟨rfl,(AH h hn).1⟩
theorem DM(hi:i<s.size)(h:bU (bh s i)=o_)(t:¬bh s i=95):i=0->aY s.data.toList=false:=λe=>by
 subst e;exact kN O_ λh2=>by
  rcases h2 with h2|h2
  ·rw[h]at h2;cases h2
  exact t h2
def fL:List ByteArray:=[⟨#[108,101,116]⟩,⟨#[114,101,99]⟩,⟨#[105,110]⟩,⟨#[102,117,110]⟩,⟨#[105,102]⟩,⟨#[116,104,101,110]⟩,⟨#[101,108,115,101]⟩,⟨#[109,97,116,99,104]⟩,⟨#[119,105,116,104]⟩,⟨#[116,121,112,101]⟩,⟨#[111,102]⟩,⟨#[116,114,117,101]⟩,⟨#[102,97,108,115,101]⟩]
def rR:List ByteArray:=[⟨#[45,62]⟩,⟨#[58,58]⟩,⟨#[59,59]⟩,⟨#[40]⟩,⟨#[41]⟩,⟨#[44]⟩,⟨#[124]⟩,⟨#[61]⟩,⟨#[60]⟩,⟨#[43]⟩,⟨#[45]⟩,⟨#[42]⟩,⟨#[95]⟩]
theorem zK{b:Nat}{t:TypeId}{l:List ByteArray}(h:W.heap[b]?=c_ (f_ (l.map g_).toArray t (0,0)))(D:k<l.length):
  W.cell? ⟨b,k,b_⟩=c_ (g_ (l.getD k ⟨#[]⟩)):=by
 simp[E_,h,s_,D]
theorem oV:ey=[95]::fL.map (·.data.toList):=rfl
theorem Ev(t:k<13):(fL.getD k ⟨#[]⟩).data.toList∈ey:=by
 rw[oV,s_,w_ (show k<fL.length from t),Option.getD_some];exact Lj _ (Lr.2 ⟨_,JB _,rfl⟩)
theorem CB{w:ByteArray}(h0:¬w=⟨#[95]⟩)(h:∀k,k<13->¬fL.getD k ⟨#[]⟩=w):w.data.toList∉ey:=by
 rw[oV];intro hm;rcases JL.1 hm with e|hm
 ·exact h0 (L7 (Ll.mp e))
 obtain⟨x,hx,e⟩:=Lr.1 hm;obtain⟨k,t,rfl⟩:=J4 hx;refine h k t ?_;rw[s_,w_ t,Option.getD_some];exact L7 (Ll.mp e)
theorem Ch:∀k,k<13->0<(rR.getD k ⟨#[]⟩).size/\(rR.getD k ⟨#[]⟩).size<=2:=by decide
def ld(s:ByteArray)(i:Nat)(w:j_)(e:Ending)(w':j_):Prop:=
 ∃k j:Nat,e=k_ (J_ #[e_ d_ k,e_ d_ j])/\ft s i k j/\n_ w.heap.size w w'
theorem fe{w':j_}(h:ft s i k j)(t:n_ w w w'):ld s i w (k_ (J_ #[e_ d_ k,e_ d_ j])) w':=⟨k,j,rfl,h,t⟩
theorem D8(h:∀m,i<=m->m<k->kO v_ (bh s m)=v_)(t:kO v_ (bh s k)=v_):∀m,i<=m->m<k+1->kO v_ (bh s m)=true:=λm h1 h2=>by
 by_cases hj:m<k
 ·exact h m h1 hj
 have:m=k:=by omega
 rw[this];exact t
theorem Cc(t:kO v_ (bh s i)=v_):∀m,i<=m->m<i+1->kO v_ (bh s m)=true:=λm h1 h2=>by
 have:m=i:=by omega
 rw[this];exact t
theorem DQ(s:ByteArray)(i:Nat)(hs:s.size<=9223372036854775000)(hi:i<s.size)(t:bU (bh s i)=v_\/cR (bh s i)=v_\/bh s i=95)(w:j_):
    H_ h_ 183 #[g_ s, e_ d_ i] w (ld s i w):=by
  obtain⟨P,hP⟩:∃P,P=ld s i w:=⟨_,rfl⟩;have M:=Z_ hP;rw[<- hP];clear hP;have bN:(i:Int)<(s.size:Int):=by omega
  have HX:=Z_ (ij s i hi);obtain⟨x,hx⟩:∃x,s[i].toNat=x:=⟨_,rfl⟩;have O:x_ (bh s i=x):=Z_ (by rw[<- hx,HX.o]);clear HX;have HS:=λW=>Z_ (gG x W)
  have HG:=λW=>Z_ (iU x W)
  have HF:x_ (kO v_ (bh s i)=v_):=Z_ (BG t);have hh:bU x=v_\/(bU x=o_/\cR x=v_)\/(bU x=o_/\cR x=o_/\((x:Int)==95)=v_):=by
    cases h:bU x with
    |true=>exact .inl rfl
    |false=>
      right;cases h2:cR x with
      |true=>exact .inl ⟨rfl,rfl⟩
      |false=>
        rw[O.o,h,h2]at t;rcases t with t|t|t
        · cases t
        · cases t
        exact .inr ⟨rfl,rfl,by rw[t];rfl⟩
  have ad:x_ (cR x=o_->bU (bh s i)=v_\/bh s i=95):=Z_ λh=>by
    rcases t with t|t|t
    · exact .inl t
    · rw[O.o,h]at t;cases t
    exact .inr t
  have ak:x_ (cR x=v_->cR (bh s i)=v_):=Z_ λh=>by rw[O.o];exact h
  clear t;generalize bU x=bs at*;generalize cR x=Y at*;go_enter Tryz.func183,Tryz.ntmps183;go_upto_region 3 with fail
  go_cut [27] (λv W=>v= u_ v_/\W=w)
  case first=>
    rcases hh with rfl|⟨rfl,rfl⟩|⟨rfl,rfl,g4⟩;all_goals go_wp2_with (first|(go_at_call 195;refine(HS _).o.mono ?_;rintro e J ⟨rfl,rfl⟩)|(go_at_call 196;refine(HG _).o.mono ?_;rintro e J ⟨rfl,rfl⟩))
    all_goals go_meet
    all_goals exact⟨rfl,rfl⟩
  obtain⟨rfl,rfl⟩:=hcut;clear hh
  go_upto_block 0 with fail
  go_cut [7] (λjv W=>∃k:Nat,jv= e_ d_ k/\x_ (F9 s i k)/\W=wc)
  case first=>
    go_wp2_with fail
    go_loopw [7] (λjv W=>∃(k:Nat),i+1<=k/\k<=s.size/\jv= e_ d_ k/\x_ (∀m,i<=m->m<k->kO v_ (bh s m)=v_)/\W=wc) (λjv _=>s.size - (A_ jv).toNat)
    case atStart=>exact⟨i+1,by omega,by omega,by go_num,Z_ (Cc HF.o),by first|rfl|trivial⟩
    obtain⟨k,bO,hk,rfl,HJ,rfl⟩:=hrel;by_cases I:k<s.size
    · have av:=Z_ (ij s k I)
      obtain⟨y,hy⟩:∃y,y=s[k].toNat:=⟨_,rfl⟩;have a1:x_ (bh s k=y):=Z_ (by rw[hy,av.o]);clear av;have HY:x_ (kO v_ y=v_->∀m,i<=m->m<k+1->kO v_ (bh s m)=v_):=Z_ λh=>D8 HJ.o (by rw[a1.o];exact h)
      have bf:=Z_ (gG y wr);have bj:=Z_ (iU y wr);have bk:=Z_ (iT y wr);have HN:x_ (kO v_ y=(bU y||cR y||ea y||decide (y=95)||decide (y=39))):=Z_ (by unfold kO;rw[Lk]);have g4:((y:Int)==95)=decide (y=95):=by
        by_cases h:y=95
        · subst h;rfl
        simp[h];omega
      have g5:((y:Int)==39)=decide (y=39):=by
        by_cases h:y=39
        · subst h;rfl
        simp[h];omega
      generalize bU y=U at*;generalize cR y=Z at*;generalize ea y=b3 at*;generalize decide (y=95)=b4 at*;generalize decide (y=39)=b5 at*;have bm:∃q,q=kO v_ y:=⟨_,rfl⟩;obtain⟨q,K⟩:=bm;have LV:x_ (q=o_->F9 s i k):=Z_ λh=>⟨by omega,hk,HJ.o,λ_=>by rw[a1.o,<- K];exact h⟩
      rw[<- K]at HN HY;clear K;replace hy:=hy.symm;have hh:U=v_\/(U=o_/\Z=v_)\/(U=o_/\Z=o_/\b3=v_)\/(U=o_/\Z=o_/\b3=o_/\b4=v_)\/(U=o_/\Z=o_/\b3=o_/\b4=o_/\b5=v_)\/(U=o_/\Z=o_/\b3=o_/\b4=o_/\b5=o_):=by
        cases U<;>cases Z<;>cases b3<;>cases b4<;>cases b5<;>simp
      rcases hh with rfl|⟨rfl,rfl⟩|⟨rfl,rfl,rfl⟩|⟨rfl,rfl,rfl,rfl⟩|⟨rfl,rfl,rfl,rfl,rfl⟩|⟨rfl,rfl,rfl,rfl,rfl⟩;all_goals go_wp2_with (first|(go_at_call 195;refine bf.o.mono ?_;rintro e J ⟨rfl,rfl⟩)|(go_at_call 196;refine bj.o.mono ?_;rintro e J ⟨rfl,rfl⟩)|(go_at_call 197;refine bk.o.mono ?_;rintro e J ⟨rfl,rfl⟩))
      all_goals first
        | (go_meet
           exact⟨k,by go_num,Z_ (LV.o (by rw[HN.o];rfl)),by first|rfl|trivial⟩)
        | (go_roundw
           case rel=>exact⟨k+1,by omega,by omega,by go_num,Z_ (HY.o (by rw[HN.o];simp)),by first|rfl|trivial⟩
           simp[A_];omega)
    have bR:¬(k:Int)<(s.size:Int):=by omega
    go_wp2_with fail;go_meet;exact⟨k,by go_num,Z_ ⟨by omega,hk,HJ.o,λh=>absurd h I⟩,by first|rfl|trivial⟩
  obtain⟨k,rfl,D,rfl⟩:=hcut;have bn:i<=k:=by have:=D.o.1;omega
  have bo:k<=s.size:=D.o.2.1;go_upto_region 7 with fail;have LV:x_ ((s.extract i k).toList=[95]\/Y=v_\/(Y=o_/\∃m,m<13/\fL.getD m ⟨#[]⟩=s.extract i k)\/(Y=o_/\¬(s.extract i k).toList=[95]/\∀m,m<13->¬fL.getD m ⟨#[]⟩=s.extract i k)->True):=Z_ λ_=>trivial
  have L1:x_ ((s.extract i k).toList=[95]->ft s i 6 k):=Z_ λe=>DO (by decide) (by decide) D.o (by rw[iL,e];decide)
  have L2:x_ (Y=v_->ft s i 2 k):=Z_ λe=>DN D.o (ak.o e)
  have L3:x_ (∀m,m<13->fL.getD m ⟨#[]⟩=s.extract i k->ft s i 5 k):=Z_ λm hm e=>DO (by decide) (by decide) D.o (by rw[<- e];exact Ev hm)
  have L4:x_ (Y=o_->¬(s.extract i k).toList=[95]->(∀m,m<13->¬fL.getD m ⟨#[]⟩=s.extract i k)->ft s i 1 k):=Z_ λe1 e2 e3=>E8 D.o (ad.o e1) (CB (λe=>e2 (by rw[e,<- iL])) e3)
  clear LV ad ak D HF HS bn bo;generalize s.extract i k=wd at*;by_cases G:wd.toList=[95]
  · have hb:(wd.toList==[95])=true:=by rw[G];rfl
    have LE:=Z_ (L1.o G);clear G;go_wp2;rw[M.o];exact fe LE.o B_
  have hb:(wd.toList==[95])=false:=by
    cases h:wd.toList==[95]with
    |false=>rfl
    |true=>exact absurd (by simpa using h) G
  have bp:=Z_ G;clear G;cases Y with
  |true=>
    have LE:=Z_ (L2.o rfl);go_wp2_with (go_at_call 196;refine(HG _).o.mono ?_;rintro e J ⟨rfl,rfl⟩);rw[M.o];exact fe LE.o B_
  |false=>
    go_wp2_with (first|(go_at_call 196;refine(HG _).o.mono ?_;rintro e wg ⟨rfl,rfl⟩)|(go_at_call 198;refine(CC _).mono ?_;rintro e J ⟨rfl,a2⟩;have V:=Z_ a2;clear a2));generalize X:World.alloc J _=W3;have ba:n_ J J W3:=by rw[<- X];exact B_.alloc L_ _
    have bb:W3.heap[J.heap.size]?=c_ (f_ (fL.map g_).toArray 243 (0,0)):=by rw[<- X];exact r_ _ _
    have bd:x_ (n_ wg wg W3):=Z_ (V.o.trans (ba.mono V.o.size));have bt:=Z_ bb;clear X ba bb V HG
    go_loopw [10] (λmv W=>∃(m:Nat),m<=13/\mv= e_ d_ m/\x_ (∀n,n<m->¬fL.getD n ⟨#[]⟩=wd)/\W=W3) (λmv _=>13 - (A_ mv).toNat)
    case atStart=>exact⟨0,by omega,rfl,Z_ (λn h=>by omega),rfl⟩
    obtain⟨m,hm,rfl,HM,rfl⟩:=hrel;by_cases I:m<13
    · have bx:(m:Int)<13:=by omega
      have c0:=zK bt.o (k:=m) I;have LW:x_ (fL.getD m ⟨#[]⟩=wd->ft s i 5 k):=Z_ (L3.o m I);have LN:x_ (¬fL.getD m ⟨#[]⟩=wd->∀n,n<m+1->¬fL.getD n ⟨#[]⟩=wd):=Z_ λh n hn=>by
        by_cases e:n<m
        · exact HM.o n e
        have:n=m:=by omega
        rw[this];exact h
      generalize fL.getD m ⟨#[]⟩=u at*;by_cases K:u=wd
      · have bB:=(vv u wd).2 K
        have LE:=Z_ (LW.o K);clear K LW LN;go_wp2;rw[M.o];exact fe LE.o bd.o
      have bB:=lj K;have LE:=Z_ (LN.o K);clear K LW LN;go_wp2;go_roundw
      case rel=>exact⟨m+1,by omega,by go_num,LE,by first|rfl|trivial⟩
      simp[A_];omega
    have bx:¬(m:Int)<13:=by omega
    have LE:=Z_ (L4.o (by first|rfl|trivial) bp.o λn hn=>HM.o n O_);go_wp2;rw[M.o];exact fe LE.o bd.o
theorem eL{a b:j_}(h:n_ B a b)(n:Nat):n_ B a (b.drewN n):=⟨h.os,h.tape,h.output,h.size,h.block⟩
theorem BJ(s:ByteArray)(i:Nat)(hs:s.size<=9223372036854775000)(hi:i<s.size)(h1:bU (bh s i)=o_)(h2:cR (bh s i)=o_)(h3:¬bh s i=95)(w:j_):
    H_ h_ 183 #[g_ s, e_ d_ i] w (ld s i w):=by
  obtain⟨P,hP⟩:∃P,P=ld s i w:=⟨_,rfl⟩;have D:=Z_ hP;rw[<- hP];clear hP;have bp:(i:Int)<(s.size:Int):=by omega
  have HX:=Z_ (ij s i hi);obtain⟨x,hx⟩:∃x,s[i].toNat=x:=⟨_,rfl⟩;have U:x_ (bh s i=x):=Z_ (by rw[<- hx,HX.o]);clear HX;have G:x_ (i=0->aY s.data.toList=o_):=Z_ (DM hi h1 h3);have HS:=λW=>Z_ (gG x W)
  have HG:=λW=>Z_ (iU x W)
  have HD:=λW=>Z_ (iT x W)
  rw[U.o]at h1 h2 h3;rw[h1]at HS;rw[h2]at HG;have a1:((x:Int)==95)=false:=by simp;omega
  clear h1 h2 h3 U;go_enter Tryz.func183,Tryz.ntmps183;generalize ea x=bd at*;cases bd with
  |true=>
    go_wp2_with (first|(go_at_call 195;refine(HS _).o.mono ?_;rintro e t ⟨rfl,rfl⟩)|(go_at_call 196;refine(HG _).o.mono ?_;rintro e t ⟨rfl,rfl⟩)|(go_at_call 197;refine(HD _).o.mono ?_;rintro e t ⟨rfl,rfl⟩))
    go_loopw [7] (λjv W=>∃(k:Nat),i+1<=k/\k<=s.size/\jv= e_ d_ k/\W=t) (λjv _=>s.size - (A_ jv).toNat)
    case atStart=>exact⟨i+1,by omega,by omega,by go_num,rfl⟩
    obtain⟨k,a2,hk,rfl,rfl⟩:=hrel;by_cases I:k<s.size
    · obtain⟨y,hy⟩:∃y,s[k].toNat=y:=⟨_,rfl⟩
      have V:=Z_ (iT y wr);obtain⟨b5,X⟩:∃b,b=ea y:=⟨_,rfl⟩;rw[<- X]at V;clear X;have J:x_ (ft s i 3 k):=Z_ (jC (by decide) (by decide) O_ hk G.o);cases b5
      · go_wp2_with (first|(go_at_call 197;refine V.o.mono ?_;rintro e t ⟨rfl,rfl⟩))
        rw[D.o];exact fe J.o B_
      go_wp2_with (first|(go_at_call 197;refine V.o.mono ?_;rintro e t ⟨rfl,rfl⟩));go_roundw
      case rel=>exact⟨k+1,by omega,by omega,by go_num,by first|rfl|trivial⟩
      simp[A_];omega
    have ba:¬(k:Int)<(s.size:Int):=by omega
    have J:x_ (ft s i 3 k):=Z_ (jC (by decide) (by decide) O_ hk G.o);go_wp2;rw[D.o];exact fe J.o B_
  |false=>
    go_upto_region 22 with(first|(go_at_call 195;refine(HS _).o.mono ?_;rintro e t ⟨rfl,rfl⟩)|(go_at_call 196;refine(HG _).o.mono ?_;rintro e t ⟨rfl,rfl⟩)|(go_at_call 197;refine(HD _).o.mono ?_;rintro e t ⟨rfl,rfl⟩));have bb:((x:Int)==39)=decide (x=39):=by
      by_cases h:x=39
      · subst h;rfl
      simp[h];omega
    generalize decide (x=39)=bf at*
    go_cut [114] (λv W=>(∃q:Bool,v= u_ q)/\W=t)
    case first=>
      cases bf with
      |false=>
        go_wp2_with fail;go_meet;exact⟨⟨_,rfl⟩,rfl⟩
      |true=>
        by_cases I:i+1<s.size
        · have bg:(i:Int)+1<(s.size:Int):=by omega
          obtain⟨y,hy⟩:∃y,s[i+1].toNat=y:=⟨_,rfl⟩;have V:=Z_ (gG y t);go_wp2_with (go_at_call 195;refine V.o.mono ?_;rintro e t ⟨rfl,rfl⟩);go_meet;exact⟨⟨_,rfl⟩,rfl⟩
        have bg:¬(i:Int)+1<(s.size:Int):=by omega
        go_wp2_with fail;go_meet;exact⟨⟨_,rfl⟩,rfl⟩
    obtain⟨⟨q,rfl⟩,rfl⟩:=hcut;clear bb HS HG HD a1;cases q with
    |true=>
      go_wp2_with fail
      go_loopw [7] (λjv W=>∃(k:Nat),i+1<=k/\k<=s.size/\jv= e_ d_ k/\W=wc) (λjv _=>s.size - (A_ jv).toNat)
      case atStart=>exact⟨i+1,by omega,by omega,by go_num,by first|rfl|trivial⟩
      obtain⟨k,a2,hk,rfl,rfl⟩:=hrel;have J:x_ (ft s i 4 k):=Z_ (jC (by decide) (by decide) O_ hk G.o);by_cases I:k<s.size
      · obtain⟨y,hy⟩:∃y,y=s[k].toNat:=⟨_,rfl⟩
        have bj:=Z_ (gG y wr);have bk:=Z_ (iU y wr);have bm:=Z_ (iT y wr);have g4:((y:Int)==95)=decide (y=95):=by
          by_cases h:y=95
          · subst h;rfl
          simp[h];omega
        generalize bU y=O at*;generalize cR y=Y at*;generalize ea y=b3 at*;generalize decide (y=95)=b4 at*;replace hy:=hy.symm;have hh:O=v_\/(O=o_/\Y=v_)\/(O=o_/\Y=o_/\b3=v_)\/(O=o_/\Y=o_/\b3=o_/\b4=v_)\/(O=o_/\Y=o_/\b3=o_/\b4=o_):=by
          cases O<;>cases Y<;>cases b3<;>cases b4<;>simp
        rcases hh with rfl|⟨rfl,rfl⟩|⟨rfl,rfl,rfl⟩|⟨rfl,rfl,rfl,rfl⟩|⟨rfl,rfl,rfl,rfl⟩;all_goals go_wp2_with (first|(go_at_call 195;refine bj.o.mono ?_;rintro e t ⟨rfl,rfl⟩)|(go_at_call 196;refine bk.o.mono ?_;rintro e t ⟨rfl,rfl⟩)|(go_at_call 197;refine bm.o.mono ?_;rintro e t ⟨rfl,rfl⟩))
        all_goals first
          | (rw [D.o]
             exact fe J.o B_)
          | (go_roundw
             case rel=>exact⟨k+1,by omega,by omega,by go_num,by first|rfl|trivial⟩
             simp[A_];omega)
      have ba:¬(k:Int)<(s.size:Int):=by omega
      go_wp2;rw[D.o];exact fe J.o B_
    |false=>
      go_wp2_with (go_at_call 199;refine(Ci _).mono ?_;rintro e ws ⟨rfl,Z⟩;have K:=Z_ Z;clear Z);generalize M:World.alloc ws _=W3;have ad:n_ ws ws W3:=by rw[<- M];exact B_.alloc L_ _
      have ak:W3.heap[ws.heap.size]?=c_ (f_ (rR.map g_).toArray 243 (0,0)):=by rw[<- M];exact r_ _ _
      have av:x_ (n_ wc wc W3):=Z_ (K.o.trans (ad.mono K.o.size));have bn:=Z_ ak;clear M ad ak K
      go_loopw [12] (λmv W=>∃(m:Nat),m<=13/\mv= e_ d_ m/\∃n,W=W3.drewN n) (λmv _=>13 - (A_ mv).toNat)
      case atStart=>exact⟨0,by omega,rfl,0,rfl⟩
      obtain⟨m,hm,rfl,n0,rfl⟩:=hrel;by_cases I:m<13
      · have bo:(m:Int)<13:=by omega
        have c0:W3.cell? ⟨ws,m,b_⟩=c_ (g_ (rR.getD m ⟨#[]⟩)):=zK bn.o (k:=m) I;obtain⟨z1,z2⟩:=Ch m I;generalize rR.getD m ⟨#[]⟩=u at*;have HA:=Z_ (nj s u i hs O_ O_ z1 (W3.drewN n0));have HL:x_ (xY s i u.data.toList=v_->ft s i 6 (i+u.size)):=Z_ λh=>by
          have hl:u.data.toList.length=u.size:=by rw[Ko];rfl
          have:=p7 h O_;exact jC (by decide) (by decide) O_ O_ G.o
        have hu:i+u.size<=9223372036854775007:=by omega
        generalize xY s i u.data.toList=q at*;clear z1;go_wp2_with fail;refine HA.o.mono ?_;rintro e w5 ⟨rfl,n1,rfl⟩;cases q with
        |true=>
          have J:=Z_ (HL.o rfl);have c1:W3.cell? ⟨ws,m,b_⟩=c_ (g_ u):=c0;clear HL;go_wp2_with fail
          go_quiet (fail)
          go_wp2;rw[D.o];exact fe J.o (eL (eL av.o _) _)
        |false=>
          clear HL;go_wp2;go_roundw
          case rel=>exact⟨m+1,by omega,by go_num,n0+n1,rfl⟩
          simp[A_];omega
      have bo:¬(m:Int)<13:=by omega
      have J:x_ (ft s i 0 0):=Z_ (ok_none G.o);go_wp2;rw[D.o];exact fe J.o (eL av.o _)
theorem Fa(s:ByteArray)(i:Nat)(hs:s.size<=9223372036854775000)(hi:i<s.size)(w:j_):
  H_ h_ 183 #[g_ s,e_ d_ i] w (ld s i w):=by
 by_cases h:bU (bh s i)=v_\/cR (bh s i)=v_\/bh s i=95
 ·exact DQ s i hs hi h w
 simp only[not_or,Bool.not_eq_true]at h;exact BJ s i hs hi h.1 h.2.1 h.2.2 w
theorem It:oJ h_ 210 213 3:=mS (b:=24) (z:=JI #[e_ d_ 0,e_ d_ 0,e_ d_ 0]) Tryz.underlying210 K_ (by decide) rfl (by decide)
structure vb where
 kind:Nat
 from_:Nat
 Is:Nat
def vb.cells(t:vb):List m_:=[e_ d_ t.kind,e_ d_ t.from_,e_ d_ t.Is]
theorem AV(a b c:Nat):∀u∈[e_ d_ a,e_ d_ b,e_ d_ c],u.oneCell'=true:=by
 intro u hu;simp at hu;rcases hu with rfl|rfl|rfl<;>rfl
def kA(s:ByteArray)(i:Nat)(l:List vb):Prop:=
 l.length<=i/\(∀t∈l,t.kind=1->aY (s.extract t.from_ t.Is).data.toList=v_)/\(aY s.data.toList=v_->(l=[]/\i=0)\/(l=[⟨1,0,s.size⟩]/\i=s.size))
structure fT(s:ByteArray)(B:Nat)(i:Nat)(l:List vb)(v:m_)(W:j_):Prop where
 ok:kA s i l
 own:W.ownsRow B 213 3 v l.length (l.flatMap vb.cells)
theorem fT.push{w3:j_}{l:List vb}{v3:m_}{us:List m_}{o:Obj}(h:fT s w i l v W)(I:n_ w w W)(D:us=l.flatMap vb.cells)(G:kA s j (l++[⟨k,i,j⟩]))
  (t:w3.ownsRow w 213 3 v3 (l.length+1) (us++[e_ d_ k,e_ d_ i,e_ d_ j])) (J:(W.alloc o).grownBy w3 v.ownBlock):fT s w j (l++[⟨k,i,j⟩]) v3 w3/\n_ w w w3:=by
 refine⟨⟨G,?_⟩,bK I I.size o J (λg e=>(h.own.lt g e).1)⟩;rw[p_,Kt,List.flatMap_append,<-D];simpa[vb.cells]using t
theorem fT.drewN{l:List vb}(h:fT s B i l v W)(n:Nat):fT s B i l v (W.drewN n):=
 ⟨h.ok,aO h.own λ_ _=>rfl⟩
def tQ(s:ByteArray)(w:j_)(e:Ending)(w':j_):Prop:=
 ∃(l:List vb) (v:m_),e=k_ v/\w'.ownsRow w.heap.size 213 3 v l.length (l.flatMap vb.cells)/\(∀t∈l,t.kind=1->aY (s.extract t.from_ t.Is).data.toList=v_)/\(aY s.data.toList=v_->l=[⟨1,0,s.size⟩])/\n_ w.heap.size w w'
theorem fT.below{l:List vb}{W':j_}(h:fT s B i l v W)(t:n_ W W W'):fT s B i l v W':=
 ⟨h.ok,aO h.own λg e=>t.block g (h.own.lt g e).2⟩
theorem tJ{l:List vb}(h:kA s i l)(hi:i<s.size)(h1:i<j)(I:k=1->aY (s.extract i j).data.toList=v_)(hn:i=0->aY s.data.toList=v_->k=1/\j=s.size):kA s j (l++[⟨k,i,j⟩]):=by
 refine⟨by have:=h.1;simp;omega,λt D e=>?_,λhs=>?_⟩
 ·rcases KI.1 D with D|D
  ·exact h.2.1 t D e
  rw[KV.1 D]at e⊢;exact I e
 rcases h.2.2 hs with⟨J,G⟩|⟨_,G⟩
 ·obtain⟨K,M⟩:=hn G hs
  right;rw[J,G,K,M];exact⟨rfl,rfl⟩
 omega
theorem tK{l:List vb}(h:kA s i l)(hi:i<s.size)(h1:i<j)(hn:i=0->aY s.data.toList=o_):kA s j l:=by
 refine⟨by have:=h.1;omega,h.2.1,λhs=>?_⟩;rcases h.2.2 hs with⟨_,t⟩|⟨_,t⟩
 ·rw[hn t]at hs;cases hs
 omega
theorem yB(hi:i<s.size)(h:oH (bh s i)=v_):i=0->aY s.data.toList=false:=λe=>by
 subst e;refine kN hi λt=>?_
 have h:=Kv h;rcases t with t|t
 ·have t:=Kv t;omega
 omega
theorem wG(hi:i<s.size)(h:xY s i [40,42]=v_):i=0->aY s.data.toList=false:=λe=>by
 subst e;refine kN hi λt=>?_
 have D:bh s 0=40:=by
  unfold xY at h;rw[KU]at h;unfold bh;cases hs:s.data.toList with
  |nil=>rw[hs]at h;cases h
  |cons c cs=>
   rw[hs]at h;simp only[List.isPrefixOf,Ku,beq_iff_eq]at h;rw[<-h.1];rfl
 rw[D]at t;rcases t with t|t
 ·exact absurd t (by decide)
 exact absurd t (by decide)
theorem Ah{l:List vb}(h:fT s w s.size l v W)(t:n_ w w W):tQ s w (k_ v) W:=by
 refine⟨l,v,rfl,h.own,h.ok.2.1,λhs=>?_,t⟩;rcases h.ok.2.2 hs with⟨_,e⟩|⟨e,_⟩
 ·exfalso
  have:s.data.toList=[]:=JH (by rw[Ko];exact e);rw[this]at hs;cases hs
 exact e
def tS(s:ByteArray)(i k j:Nat):Prop:=i<j/\j<=s.size/\(k=1->aY (s.extract i j).data.toList=v_)/\(i=0->aY s.data.toList=v_->k=1/\j=s.size)
theorem Cw(h:ft s i 0 0)(h1:i<j)(h2:j<=s.size):tS s i 7 j:=
 ⟨h1,h2,(λe=>by cases e),λe hs=>by have:=(h.2.2 e hs).1;cases this⟩
theorem GP(h:ft s i k j)(t:k≠0):tS s i k j:=by
 rcases h.1 with⟨e,_⟩|⟨_,_,D,G⟩
 ·exact absurd e t
 exact⟨D,G,h.2.1,h.2.2⟩
theorem BM(h:W.ownsRow B e k v n xs)(hn:0<n):∃g c,v=a_ (c_ ⟨g,0,b_⟩) n c/\∀j,j<n*k->W.cell? ⟨g,j,b_⟩=xs[j]?:=by
 rcases h.2 with⟨e,h0⟩|⟨g,cap,cur,e,I,t,D,hm,hc,G⟩
 ·omega
 refine⟨g,cap,e,λj hj=>?_⟩;rw[<-G,Mb,G_ hj];simp[E_,t]
theorem DT(h:W.ownsRow B e k v n xs):∃A c,v=a_ A n c:=by
 rcases h.2 with⟨e,h0⟩|⟨g,cap,cur,e,_⟩
 ·exact⟨b_,0,by rw[e,h0]⟩
 exact⟨_,_,e⟩
def G0(s:ByteArray)(i:Nat)(w:j_)(jv:m_)(W:j_):Prop:=∃j:Nat,i+1<=j/\j<=s.size/\jv=e_ d_ j/\x_ (n_ w.heap.size w W)
theorem EY(s:ByteArray)(hs:s.size<=1000000000)(w:j_):H_ h_ 159 #[g_ s] w (tQ s w):=by
 obtain⟨P,hP⟩:=N_ (tQ s w);have bb:=Z_ hP;rw[<-hP];clear hP;have HA:=λ(i:Nat) (hi:i<=s.size) W=>Z_ (nj s ⟨#[40,42]⟩ i O_ hi (by decide) (by decide) W)
 have HR:=λ(i:Nat) (hi:i<=s.size) W=>Z_ (yR s i O_ hi W)
 have HO:=λ(i:Nat) (hi:i<s.size) W=>Z_ (Fa s i O_ hi W)
 go_enter Tryz.func159,Tryz.ntmps159;go_wp2
 go_loopw [3,4] (λov iv W=>∃(i:Nat) (l:List vb) (v:m_),i<=s.size/\v=ov/\iv=e_ d_ i/\x_ (fT s w i l ov W)/\x_ (n_ w w W)) (λ_ iv _=>s.size - (A_ iv).toNat)
 case atStart=>
  refine⟨0,[],_,by omega,rfl,rfl,Z_ ⟨⟨by simp,by simp,λ_=>.inl ⟨rfl,rfl⟩⟩,?_⟩,Z_ (B_.alloc L_ _)⟩;exact World.ownsRow_made w #[] 0 L_ (by simp) (by simp)
 obtain⟨i,l,v,hi,rfl,rfl,M,HB⟩:=hrel;by_cases t:i<s.size
 ·have bB:(i:Int)<(s.size:Int):=by omega
  have bN:∃x,s[i].toNat=x:=⟨_,rfl⟩;obtain⟨x,hx⟩:=bN;have bO:x_ (bh s i=x):=Z_ (by rw[<-hx];exact(ij s i t).symm);have HW:=Z_ (pq x wr);have HZ:=Z_ HB.o.size;cases hw:oH x with
  |true=>
   have HE:x_ (fT s w (i+1) l v wr):=Z_ ⟨tK M.o.ok t (Nat.lt_succ_self i) (yB t (by rw[bO.o];exact hw)),M.o.own⟩;rw[hw]at HW;clear hw;go_wp2_with fail;refine HW.o.mono ?_;rintro e J ⟨rfl,rfl⟩;go_wp2;go_roundw
   case rel=>exact⟨i+1,l,v,by omega,rfl,by go_num,HE,HB⟩
   simp[A_];omega
  |false=>
   rw[hw]at HW;clear hw;have K:=HA i hi;have bd:=HR i hi;have bf:=HO i t;obtain⟨b1,ad⟩:=N_ (xY s i [40,42]);have K:∀W,x_ (H_ h_ 181 #[g_ s,e_ d_ i,g_ ⟨#[40,42]⟩] W λe w'=>e=k_ (u_ b1)/\∃n,w'=W.drewN n):=by rw[ad];exact K
   have ak:x_ (b1=v_->i=0->aY s.data.toList=o_):=Z_ λe=>wG t (by rw[<-ad];exact e)
   clear ad HA HR;go_wp2_with fail;refine HW.o.mono ?_;rintro e J ⟨rfl,rfl⟩;go_wp2_with fail;refine(K _).o.mono ?_;rintro e w3 ⟨rfl,n1,rfl⟩;cases b1 with
   |true=>
    have HN:=Z_ (ak.o rfl);clear ak K bf HO;go_wp2_with fail;refine(bd _).o.mono ?_;rintro e w4 ⟨j,rfl,hj,n2,rfl⟩;by_cases bR:j=0
    ·subst bR
     have O:=Z_ (M.o.drewN (n1+n2));have V:x_ (n_ w w (J.drewN (n1+n2))):=Z_ (eL HB.o _);have D:=O.o.own;have b0:l.length<=1000000000:=by have:=M.o.ok.1;omega
     have X:x_ (kA s s.size (l++[⟨7,i,s.size⟩])):=Z_ (tJ M.o.ok t t (λe=>by cases e) (λe hs=>by rw[HN.o e]at hs;cases hs));obtain⟨us,G⟩:=N_ (l.flatMap vb.cells);rw[<-G]at D;have av:=Z_ G;have hz:w.heap.size<=J.heap.size:=HB.o.size;clear G hj;go_wp2_with (at_builtin;go_must (refine dc _ rfl _ _ _ rfl w _ 3 It _ l.length us rfl (Kf D _) ⟨J,0,b_⟩ 1 1 [e_ d_ 7,e_ d_ i,e_ d_ s.size] rfl rfl (bF (J.drewN (n1+n2)) _ _) (AV 7 i s.size) O_ (by simp;omega) ?_);intro v3 w3 I a1 bg);obtain⟨h1,h2⟩:=O.o.push V.o av.o X.o I a1;rw[bb.o];exact Ah h1 h2
    have a2:i<j/\j<=s.size:=by omega
    obtain⟨b2,b3⟩:=a2;have HE:x_ (fT s w j l v J):=Z_ ⟨tK M.o.ok t b2 HN.o,M.o.own⟩;clear hj;have cm:((j:Int)==0)=false:=by simp;omega
    go_wp2;go_roundw
    case rel=>exact⟨j,l,v,b3,rfl,by first|rfl|trivial,Z_ (HE.o.drewN _),Z_ (eL HB.o _)⟩
    simp[A_];omega
   |false=>
    clear ak bd;have bj:=K;go_wp2_with fail;refine(bf _).o.mono ?_;rintro e w4 ⟨k,j,rfl,ba,bk⟩;have X:=Z_ ba;have bm:x_ (n_ J J w4):=Z_ ((eL B_ n1).trans bk);have Y:k<=6/\j<=s.size:=by rcases ba.1 with⟨h1,h2⟩|⟨_,h1,_,h2⟩<;>omega
    obtain⟨Y,cp⟩:=Y;clear ba bk K bj HW
    go_upto_if 44 with fail
    go_cut [6,7]from 11 to 75 (λkv jv wx=>∃k j:Nat,kv=e_ d_ k/\jv=e_ d_ j/\x_ (tS s i k j)/\x_ (n_ J J wx))
    case first=>
     by_cases bn:k=0
     ·subst bn
      have b5:x_ (ft s i 0 0):=Z_ (by
       have:=X.o;rcases this.1 with⟨_,e⟩|⟨e,_⟩
       ·subst e;exact this
       omega)
      go_wp2_with fail
      go_loopw [7] (λjv W=>G0 s i J jv W) (λjv _=>s.size - (A_ jv).toNat)
      case atStart=>exact⟨i+1,by omega,by omega,by go_num,bm⟩
      obtain⟨j,b6,cb,rfl,Z⟩:=hrel;have U:=Z_ (Cw b5.o b6 cb);by_cases cd:j<s.size
      ·have cf:(j:Int)<(s.size:Int):=by omega
       obtain⟨y,hy⟩:∃y,s[j].toNat=y:=⟨_,rfl⟩;have cg:=Z_ (pq y wr);have ch:=HO j cd;generalize oH y=q at*;go_wp2_with fail;refine cg.o.mono ?_;rintro e w5 ⟨rfl,rfl⟩;cases q with
       |true=>
        go_wp2_with fail;go_meet;exact⟨7,j,rfl,rfl,U,Z⟩
       |false=>
        go_wp2_with fail;refine(ch _).o.mono ?_;rintro e w6 ⟨k6,j6,rfl,bo,bp⟩;have HB6:x_ (n_ J J w6):=Z_ (Z.o.trans (bp.mono Z.o.size));clear bo bp;by_cases Y:k6=0
        ·subst Y
         go_wp2_with fail;go_roundw
         case rel=>(repeat with_reducible apply Exists.intro);exact⟨⟨j+1,by omega,by omega,by go_num,HB6⟩,rfl⟩
         simp[A_];omega
        have ck:((k6:Int) !=0)=true:=by simp;omega
        go_wp2_with fail;go_meet;exact⟨7,j,rfl,rfl,U,HB6⟩
      have cf:¬(j:Int)<(s.size:Int):=by omega
      go_wp2_with fail;go_meet;exact⟨7,j,rfl,rfl,U,Z⟩
     have ck:((k:Int)==0)=false:=by simp;omega
     have U:=Z_ (GP X.o bn);go_wp2_with fail;go_meet;exact⟨k,j,rfl,rfl,U,bm⟩
    obtain⟨k,j,rfl,rfl,U,bt⟩:=hcut;have O:=Z_ (M.o.below bt.o);have V:x_ (n_ w w wc):=Z_ (HB.o.trans (bt.o.mono HB.o.size));have D:=O.o.own;have b0:l.length<=1000000000:=by have:=M.o.ok.1;omega
    have bx:x_ (kA s j (l++[⟨k,i,j⟩])):=Z_ (tJ M.o.ok t U.o.1 U.o.2.2.1 U.o.2.2.2);obtain⟨us,G⟩:=N_ (l.flatMap vb.cells);rw[<-G]at D;have av:=Z_ G;have hz:w.heap.size<=wc.heap.size:=V.o.size;have cr:i<j:=U.o.1;have a2:j<=s.size:=U.o.2.1;clear G;go_wp2_with (at_builtin;go_must (refine dc _ rfl _ _ _ rfl w _ 3 It _ l.length us rfl (Kf D _) ⟨wc,0,b_⟩ 1 1 [e_ d_ k,e_ d_ i,e_ d_ j] rfl rfl (bF wc _ _) (AV k i j) O_ (by simp;omega) ?_);intro v3 w3 I a1 bg);obtain⟨h1,h2⟩:=O.o.push V.o av.o bx.o I a1;go_roundw
    case rel=>exact⟨j,_,v3,a2,rfl,rfl,Z_ h1,Z_ h2⟩
    simp[A_];omega
 have cl:i=s.size:=by omega
 subst cl;have HE:=Z_ (Ah M.o HB.o);have bB:¬((s.size:Int)<(s.size:Int)):=by omega
 go_wp2;rw[bb.o];exact HE.o
theorem rJ(s:ByteArray)(hs:s.size<=1000000000)(w:j_):
  H_ h_ 148 #[g_ s] w λe w'=>∃z:Int,e=k_ (e_ d_ z)/\(z=1↔aY s.data.toList=v_)/\n_ w w w':=by
 have HL:=Z_ (EY s hs w);go_enter Tryz.func148,Tryz.ntmps148;go_wp2_with fail;refine HL.o.mono ?_;rintro e Z ⟨l,v,rfl,G,h1,h2,hb⟩;have M:=Z_ hb;have O:x_ (l.length≠1->aY s.data.toList=o_):=Z_ λh=>by
  cases hn:aY s.data.toList with
  |false=>rfl
  |true=>rw[h2 hn]at h;exact absurd rfl h
 by_cases U:l.length=1
 ·obtain⟨t,rfl⟩:∃t,l=[t]:=by
   match l,U with
   |[t],_=>exact⟨t,rfl⟩
  have HK:x_ (t.kind=1->aY (s.extract t.from_ t.Is).data.toList=v_):=Z_ (h1 t (by simp));have HT:x_ (aY s.data.toList=v_->t=⟨1,0,s.size⟩):=Z_ λh=>by have:=h2 h;injection this
  obtain⟨g,c,rfl,hc⟩:=BM G (MG rfl);have c0:Z.cell? ⟨g,0,b_⟩=c_ (e_ d_ t.kind):=hc 0 (MG rfl);have c1:Z.cell? ⟨g,1,b_⟩=c_ (e_ d_ t.from_):=hc 1 (MG rfl);have c2:Z.cell? ⟨g,2,b_⟩=c_ (e_ d_ t.Is):=hc 2 (MG rfl);clear G h1 h2 hc hb O U;obtain⟨k,f,o⟩:=t;simp only at c0 c1 c2 HK;have HE:x_ (f=0->o=s.size->(k=1↔aY s.data.toList=v_)):=Z_ λI J=>by
   subst I J;refine⟨λe=>?_,λh=>?_⟩
   ·have:=HK.o e;rwa[iM]at this
   have:=HT.o h;injection this
  have HF:x_ (¬(f=0/\o=s.size/\k≠7)->aY s.data.toList=o_):=Z_ λh=>by
   cases hn:aY s.data.toList with
   |false=>rfl
   |true=>
    have:=HT.o hn;injection this with I J K;exact absurd ⟨J,K,by omega⟩ h
  clear HK HT;have V:((f:Int) !=0)=!decide (f=0):=by
   by_cases h:f=0
   ·rw[JR h,h];rfl
   have:¬(f:Int)=0:=by omega
   rw[JJ h];simp[this,h]
  have X:((o:Int) !=(s.size:Int))=!decide (o=s.size):=by
   by_cases h:o=s.size
   ·rw[JR h,h];simp
   have:¬(o:Int)=(s.size:Int):=by omega
   rw[JJ h];simp[this,h]
  have Y:((k:Int)==7)=decide (k=7):=by
   by_cases h:k=7
   ·rw[JR h,h];rfl
   have:¬(k:Int)=7:=by omega
   rw[JJ h];simp[this,h]
  by_cases I:f=0
  ·by_cases J:o=s.size
   ·by_cases K:k=7
    ·have D:=Z_ (HF.o λh=>h.2.2 K)
     rw[JR I]at V;rw[JR J]at X;rw[JR K]at Y;clear I J K;go_wp2;go_ret;exact⟨0,rfl,by rw[D.o];decide,M.o⟩
    have ad:=Z_ (HE.o I J);rw[JR I]at V;rw[JR J]at X;rw[JJ K]at Y;clear I J K;go_wp2;go_ret;refine⟨k,rfl,?_,M.o⟩;rw[<-ad.o];omega
   have D:=Z_ (HF.o λh=>J h.2.1);rw[JR I]at V;rw[JJ J]at X;clear I J Y;go_wp2;go_ret;exact⟨0,rfl,by rw[D.o];decide,M.o⟩
  have D:=Z_ (HF.o λh=>I h.1);rw[JJ I]at V;clear I X Y;go_wp2;go_ret;exact⟨0,rfl,by rw[D.o];decide,M.o⟩
 have D:=Z_ (O.o U);obtain⟨A,c,rfl⟩:=DT G;have ak:((l.length:Int) !=1)=true:=by simp;omega
 clear G h1 h2 hb U;go_wp2;go_ret;exact⟨0,rfl,by rw[D.o];decide,M.o⟩
end Go.Proofs.YtaalbcfpacpgfaaGreat
namespace Go.Typ
def pY(n:Nat)(T:Ty):Prop:=∀x∈T.list,x.name.size<=n
theorem ry{x:Ty}:∀{ts:List Ty},x∈di ts->∃t∈ts,x∈t.list
 |t::ts,h=>by
  rw[di]at h;rcases KI.1 h with h|h
  ·exact⟨t,Lt,h⟩
  obtain⟨u,hu,hx⟩:=ry h;exact⟨u,Lj _ hu,hx⟩
theorem pY.mk{n:Nat}{k num:Int}{D:ByteArray}{ts:List Ty}(h:D.size<=n)(hs:∀t∈ts,pY n t):pY n (.mk k num D ts):=λx hx=>by
 rw[Ty.dd]at hx;rcases JL.1 hx with rfl|hx
 ·exact h
 obtain⟨t,G,hx⟩:=ry hx;exact hs t G x hx
def FU:Ty:=.mk 0 0 ⟨#[]⟩ []
open Go.RowKit Go.Lib Go.Vfs Go.Par
mutual
noncomputable def qc:Ty->Ty->List (Int×Ty)->Bool×List (Int×Ty)
 | .mk k n s gs,T,kn=>if k=1 then(match kn.lookup n with|some U=>(same U T,kn)|none=>(v_,kn++[(n,T)]))
   else if k=T.kind/\s=T.name/\gs.length=T.args.length then AP gs T.args kn else(o_,kn)
noncomputable def AP:List Ty->List Ty->List (Int×Ty)->Bool×List (Int×Ty)
 |[],_,kn=>(v_,kn)
 |_::_,[],kn=>(o_,kn)
 |g::gs,t::ts,kn=>if(qc g t kn).1=v_ then AP gs ts (qc g t kn).2 else(o_,(qc g t kn).2)
end
mutual
def yz(Q:Int->Ty->Prop):Ty->Ty->Prop
 | .mk k n _ gs,T=>if k=1 then Q n T else DA Q gs T.args
def DA(Q:Int->Ty->Prop):List Ty->List Ty->Prop
 |[],_=>True
 |_::_,[]=>True
 |g::gs,t::ts=>yz Q g t/\DA Q gs ts
end
noncomputable def FK (G T:Ty):Bool:=cJ G&&(cJ T&&(qc G T []).1)
end Go.Typ
namespace Go.Proofs.YtaalbcfpacpgfaaGreat
open Go.RowKit Go.Lib Go.Vfs Go.Par Go.Typ Go.Shelf
structure BX(w:j_)(b:Nat)(T:Ty)(A:Option Addr)(cc:Nat)(W:j_):Prop where
 box:W.heap[b]?=c_ (f_ #[e_ d_ T.kind,e_ d_ T.num,g_ T.name,a_ A T.args.length cc] 61 (0,0))
 ty:aG (·<W.heap.size) W (cn T.kind T.num T.name A T.args.length cc) T
 below:n_ w.heap.size w W
variable{w W:j_}{A:Option Addr}{cc:Nat}
theorem BX.t{b:Nat}{T:Ty}{W':j_}(h:BX w b T A cc W)(D:n_ W W W'):BX w b T A cc W':=
 ⟨(D.block _ (ao h.box)).trans h.box,h.ty.fl D,h.below.trans (D.mono h.below.size)⟩
theorem BX.new{T:Ty}(t:n_ w w W)(D:aG (·<W.heap.size) W (cn T.kind T.num T.name A T.args.length cc) T):
  BX w W T A cc (W.alloc (f_ #[e_ d_ T.kind,e_ d_ T.num,g_ T.name,a_ A T.args.length cc] 61)):=
 ⟨r_ _ _,D.fl (B_.alloc L_ _),t.trans ((B_.alloc L_ _).mono t.size)⟩
end Go.Proofs.YtaalbcfpacpgfaaGreat
namespace Go.Typ
open Go.RowKit Go.Lib Go.Vfs Go.Par
def iH(met:List Int)(n:Int):List Int:=if n∈met then met else met++[n]
mutual
def bY:Ty->List Int->Ty×List Int
 | .mk k n s ts,met=>if k=1 then(.mk 1 (met.idxOf n) ⟨#[]⟩ [],iH met n)else(.mk k 0 s (bL ts met).1,(bL ts met).2)
def bL:List Ty->List Int->List Ty×List Int
 |[],met=>([],met)
 |t::ts,met=>((bY t met).1::(bL ts (bY t met).2).1,(bL ts (bY t met).2).2)
end
theorem fV(T:Ty)(met:List Int):bY T met=if T.kind=1 then(.mk 1 (met.idxOf T.num) ⟨#[]⟩ [],iH met T.num)else(.mk T.kind 0 T.name (bL T.args met).1,(bL T.args met).2):=by
 obtain⟨k,n,s,ts⟩:=T;rw[bY];rfl
theorem vA{ts:List Ty}{k:Nat}(t:k<ts.length)(met:List Int):bL (ts.drop k) met=((bY ts[k] met).1::(bL (ts.drop (k+1)) (bY ts[k] met).2).1,(bL (ts.drop (k+1)) (bY ts[k] met).2).2):=by
 rw[KA t,bL]
theorem od{n:Int}{met:List Int}(h:n∉met):met.idxOf n=met.length:=List.idxOf_eq_length h
theorem DC(met:List Int)(n:Int):(iH met n).length<=met.length+1:=by
 unfold iH;split<;>simp
theorem oN:∀(ts:List Ty),(∀t∈ts,∀met:List Int,(bY t met).2.length<=met.length+t.parts)->∀met:List Int,(bL ts met).2.length<=met.length+aT ts
 |[],_,met=>by simp[bL]
 |t::ts,h,met=>by
  rw[bL,aT];have h1:=h t (by simp) met;have h2:=oN ts (λx hx=>h x (by simp[hx])) (bY t met).2;simp only;omega
theorem qE(T:Ty):∀met:List Int,(bY T met).2.length<=met.length+T.parts:=by
 induction T using Ty.ind with
 |h T D=>
  intro met;rw[fV];have hp:=T.dX;split
  ·have:=DC met T.num;simp only;omega
  have:=oN T.args (λt G=>by obtain⟨i,hi,rfl⟩:=J4 G;exact D i hi) met;have:=T.parts_eq;simp only;omega
end Go.Typ
namespace Go.Proofs.YtaalbcfpacpgfaaGreat
open Go.RowKit Go.Lib Go.Vfs Go.Par Go.Typ Go.Shelf
def mh(T:Ty):Ty:=if cJ T then(bY T []).1 else FU
variable{met:List Int}{n:Int}
theorem Hc:pP h_ 67 3 (e_ d_ 0):=mT (b:=8) Tryz.underlying67 K_ (by decide) rfl
theorem E6(h:n∈met):iH met n=met:=by unfold iH;rw[G_ h]
theorem DD(h:n∉met):iH met n=met++[n]:=by unfold iH;rw[I_ h]
theorem Et(B:Nat)(T:Ty):∀(met:List Int) (mv v:m_) (w:j_),B<=w.heap.size->aG (·<B) w v T->Par.Own w B 3 mv (ints met)->met.length+T.parts<=1000000000->
  H_ h_ 186 #[mv,v] w λe w'=>∃v',e=k_ v'/\Par.Own w' B 3 v' (ints (bY T met).2)/\Gr w w' mv v':=by
 induction T using Ty.ind with
 |h T ih=>
  intro met mv v w hB hT hO hp;have IH:=Z_ ih;clear ih;obtain⟨A,c,rfl,hc,hm,hn⟩:=hT.form;obtain⟨Am,cm,rfl⟩:=hO.form;rw[ew]at hO⊢;have cv:T.args.length<=1000000000:=by have:=eO T.args;rw[T.parts_eq]at hp;omega
  have t:met.length<=1000000000:=by omega
  obtain⟨W1,D⟩:=N_ (w.alloc (f_ #[e_ d_ T.kind,e_ d_ T.num,g_ T.name,a_ A T.args.length c] 61));have Y:n_ w w W1:=by rw[D];exact B_.alloc L_ _
  have ak:W1.heap[w.heap.size]?=c_ (f_ #[e_ d_ T.kind,e_ d_ T.num,g_ T.name,a_ A T.args.length c] 61 (0,0)):=by rw[D];exact r_ _ _
  have av:W1.heap.size=w.heap.size+1:=by rw[D];simp
  have bk:aG (·<B) W1 (cn T.kind T.num T.name A T.args.length c) T:=hT.ae λg hg=>⟨hg,Y.block g O_⟩
  have bm:=hO.below Y;have bn:=Z_ ak;have HP:=Z_ hp;have a1:=Z_ av;have cb:=Z_ bk;have a2:=Z_ Y;have bo:=Z_ bm;have HB:=Z_ hB;obtain⟨y0,y1,y2,y3⟩:=aX ak;rw[D]at y0 y1 y2 y3;have bp:=hO.lt;clear hT hO ak hp bk bm Y av hc hm hn;unfold cn;by_cases Z:T.kind=1
  ·have M:(bY T met).2=iH met T.num:=by rw[fV,G_ Z]
   rw[M];have K1:=Z_ Z;have h1:(T.kind==1)=true:=by simp[Z]
   rw[Z]at h1 y0 y1 y2 y3 D⊢;clear M;go_enter Tryz.func186,Tryz.ntmps186;go_wp2;rw[<-D];clear D y0 y1 y2 y3 h1 Z
   go_loopw [5] (λiv W=>∃(k:Nat),k<=met.length/\iv=e_ d_ k/\x_ (T.num∉met.take k)/\x_ (n_ W1 W1 W)) (λiv _=>met.length - (A_ iv).toNat)
   case atStart=>exact⟨0,by omega,rfl,Z_ (by simp),Z_ B_⟩
   obtain⟨k,hk,rfl,HA,K⟩:=hrel;have O:=bo.o.below K.o;have bt:=O.dH.open_ints;obtain⟨A0,c0,e0,cx,cB,ba⟩:=bt;injection e0 with e1 _ e2;subst e1 e2;obtain⟨y0,y1,y2,y3⟩:=aX ((K.o.block _ (by have:=a1.o;omega)).trans bn.o);have I:=Z_ O;clear O;by_cases G:k<met.length
   ·obtain⟨b,off,x,rfl,hb,hx,HX⟩:=ba.int G
    have bx:met.getD k 0=met[k]:=by rw[s_,w_ G];rfl
    have bB:x_ (x=met[k]):=Z_ (by rw[<-HX.o,bx]);have cd:x_ (met.take (k+1)=met.take k++[met[k]]):=Z_ (by rw[y_ G]);clear bx ba;go_wp2_with fail
    go_quiet (fail)
    by_cases he:x=T.num
    ·have HE:x_ (iH met T.num=met):=Z_ (E6 (by rw[<-he,bB.o];exact JB G))
     have heq:(x==T.num)=true:=by simp[he]
     clear he;go_wp2;go_ret;rw[HE.o];exact⟨_,rfl,I.o.drewN _,(Gr.ar a2.o _).trans (Gr.ar (eM K.o _) _)⟩
    have bb:x_ (T.num∉met.take (k+1)):=Z_ (by
     rw[cd.o];intro h;rcases KI.1 h with h|h
     ·exact HA.o h
     rw[KV.1 h]at he;exact he bB.o)
    have heq:(x==T.num)=false:=by simp[he]
    clear he;go_wp2;go_roundw
    case rel=>exact⟨k+1,by omega,by go_num,bb,Z_ (eM K.o _)⟩
    simp[A_];omega
   have bd:k=met.length:=by omega
   have bb:x_ (iH met T.num=met++[T.num]):=Z_ (DD (by have:=HA.o;rw[bd,JO]at this;exact this));have bN:∀o,Par.Own (wr.alloc o) B 3 _ (ints met):=λo=>I.o.alloc o
   have bO:∀x:Int,bw (wr.alloc (f_ #[e_ d_ x] 3)) (wr+1) (a_ (c_ ⟨wr,0,b_⟩) 1 1) (ints [x]):=λx=>bw.new wr 3 #[e_ d_ x] (ints [x]) rfl (by simp[ints,JT])
   have cf:=K.o.size;clear ba;go_wp2_with (at_builtin;refine aE _ rfl _ _ _ rfl B 3 _ Hc _ _ rfl (bN _) _ _ _ rfl (bO _) (wI _) ?c1 ?c2 ?_)
   case c1=>rw[ew];simp[ints];omega
   case c2=>have:=a1.o;have:=HB.o;simp;omega
   intro v3 w3 U X ad;have HE:x_ (Par.Own w3 B 3 v3 (ints (met++[T.num]))):=Z_ (by rw[wu];exact U);have cg:x_ (Gr w w3 (a_ Am met.length cm) v3):=Z_ (((Gr.ar a2.o _).trans (Gr.ar K.o _)).trans (Gr.app X (by rw[JQ];exact ad)));clear U X ad bN bO;go_wp2;go_ret;rw[bb.o];exact⟨_,rfl,HE.o,cg.o⟩
  have M:(bY T met).2=(bL T.args met).2:=by rw[fV,I_ Z]
  rw[M];have h1:(T.kind==1)=false:=by simp[Z]
  clear M Z;go_enter Tryz.func186,Tryz.ntmps186;go_wp2;rw[<-D];clear D y0 y1 y2 y3 h1;have bR:x_ (∀g,(a_ Am met.length cm).ownBlock=c_ g->B<=g/\g<w.heap.size):=Z_ bp;clear bp
  go_loopw [0,6] (λsv iv W=>∃(k:Nat) (mt:List Int),k<=T.args.length/\iv=e_ d_ k/\x_ (Par.Own W B 3 sv (ints mt))/\x_ ((bL (T.args.drop k) mt).2=(bL T.args met).2)/\x_ (mt.length+aT (T.args.drop k)<=met.length+aT T.args)/\x_ (Gr W1 W (a_ Am met.length cm) sv)) (λ_ iv _=>T.args.length - (A_ iv).toNat)
  case atStart=>exact⟨0,met,by omega,rfl,bo,Z_ (by rw[KU]),Z_ (by rw[KU];exact Kh _),Z_ (Gr.refl _ _)⟩
  obtain⟨k,mt,hk,rfl,I,b0,b1,J⟩:=hrel;have av:=a1.o;have hB:=HB.o;have cf:=J.o.1.size;have bf:=J.o.below (B:=B) O_ (λg e=>(bR.o g e).1);obtain⟨y0,y1,y2,y3⟩:=aX ((J.o.block (g:=w.heap.size) O_ (λe=>by have:=(bR.o _ e).2;omega)).trans bn.o);obtain⟨As,cs,es⟩:=I.o.form;subst es;by_cases G:k<T.args.length
  ·have b2:aG (·<B) wr (cn T.kind T.num T.name A T.args.length c) T:=cb.o.ae λg hg=>⟨hg,bf.block g hg⟩
   obtain⟨b,off,A',c',rfl,hb,ht,x0,x1,x2,x3⟩:=b2.arg G;have ch:=iR G;have bg:=b0.o;rw[vA G]at bg;have bj:=IH.o k G mt _ _ wr O_ ht I.o (by have:=b1.o;have:=HP.o;have:=T.parts_eq;omega);have t:=qE T.args[k] mt;have ck:x_ ((bL (T.args.drop (k+1)) (bY T.args[k] mt).2).2=(bL T.args met).2):=Z_ bg;have cl:x_ ((bY T.args[k] mt).2.length+aT (T.args.drop (k+1))<=met.length+aT T.args):=Z_ (by have:=b1.o;omega);clear ht b2 bg ch t;generalize(bY T.args[k] mt).2=cp at*;generalize T.args[k]=V at*;unfold cn at bj;have b3:=Z_ bj;obtain⟨ml,t⟩:=N_ ((ints mt).length);have cu:=Z_ t;rw[<-t]at b3 I J⊢;clear bj t bf;go_wp2_with fail;refine b3.o.mono ?_;rintro e w3 ⟨v3,rfl,b5,X⟩;have cr:=Z_ b5;have ct:=Z_ (J.o.trans X);clear b5 X;go_wp2;go_roundw
   case rel=>exact⟨k+1,cp,by omega,by go_num,cr,ck,cl,ct⟩
   simp[A_];omega
  have bd:k=T.args.length:=by omega
  have b6:mt=(bL T.args met).2:=by
   have:=b0.o;rw[bd,Ma,bL]at this;exact this
  have HE:x_ (Par.Own wr B 3 (a_ As (ints mt).length cs) (ints (bL T.args met).2)/\Gr w wr (a_ Am met.length cm) (a_ As (ints mt).length cs)):=Z_ ⟨by rw[<-b6];exact I.o,(Gr.ar a2.o _).trans J.o⟩;obtain⟨ml,t⟩:=N_ ((ints mt).length);rw[<-t]at HE⊢;clear b6 t bf I J;go_wp2;go_ret;exact⟨_,rfl,HE.o.1,HE.o.2⟩
end Go.Proofs.YtaalbcfpacpgfaaGreat
namespace Go.Typ
mutual
def eY:Ty->Int
 | .mk _ _ _ ts=>fm ts 1
def fm:List Ty->Int->Int
 |[],n=>n
 |a::ts,n=>if n<=300 then fm ts (n+eY a)else n
end
variable{n:Int}{k:Nat}
theorem sV(T:Ty):eY T=fm T.args 1:=by cases T;rfl
theorem vE{ts:List Ty}(h:¬n<=300):fm ts n=n:=by
 cases ts with
 |nil=>rfl
 |cons a ts=>simp only[fm,I_ h]
theorem vD{ts:List Ty}(t:k<ts.length)(h:n<=300):fm (ts.drop k) n=fm (ts.drop (k+1)) (n+eY ts[k]):=by
 rw[KA t,fm,G_ h]
theorem yj{ts:List Ty}(t:ts.length<=k):fm (ts.drop k) n=n:=by
 rw[L6 t,fm]
def zq(p:Nat)(c:Int):Prop:=1<=c/\c<=p/\(c=p\/300<c)
theorem Bh{ts:List Ty}(D:∀a∈ts,zq a.parts (eY a)):∀(n:Int) (p:Nat),zq p n->zq (p+aT ts) (fm ts n):=by
 induction ts with
 |nil=>intro n p h;simpa[aT,fm]using h
 |cons a ts t=>
  intro n p h;obtain⟨h1,h2,J⟩:=h;have G:=D a (by simp);obtain⟨K,M,a3⟩:=G;simp only[fm,aT];split
  ·have:=t (λb I=>D b (by simp[I])) (n+eY a) (p+a.parts) ⟨by omega,by omega,by omega⟩
   rw[<-ME];exact this
  exact⟨h1,by omega,by omega⟩
theorem sW(T:Ty):zq T.parts (eY T):=by
 induction T using Ty.ind with
 |h T t=>
  rw[sV,T.parts_eq];refine Bh (λa D=>?_) 1 1 ⟨by omega,by omega,by omega⟩;obtain⟨i,hi,rfl⟩:=J4 D;exact t i hi
def gD(T:Ty):Bool:=T.list.all gV
theorem tg{p:Ty->Bool}:∀ts:List Ty,(di ts).all p=ts.all λa=>a.list.all p
 |[]=>rfl
 |a::ts=>by rw[di,List.all_append,tg ts,List.all_cons]
theorem Df(T:Ty):gD T=(gV T&&T.args.all gD):=by
 unfold gD;rw[T.dd,List.all_cons,tg]
end Go.Typ
namespace Go.Proofs.YtaalbcfpacpgfaaGreat
open Go.RowKit Go.Lib Go.Vfs Go.Par Go.Typ
theorem Bi(T:Ty):∀(v:m_) (w:j_),aG (·<w.heap.size) w v T->T.parts<=1099511627776->
  H_ h_ 200 #[v] w λe w'=>e=k_ (e_ d_ (eY T))/\n_ w w w':=by
 induction T using Ty.ind with
 |h T ih=>
  intro v w hT hp;have IH:=Z_ ih;clear ih;obtain⟨A,c,rfl,hc,hm,hn⟩:=hT.form;have HT:=Z_ hT;have HP:=Z_ hp;have bg:T.args.length<=1099511627776:=by have:=eO T.args;rw[T.parts_eq]at hp;omega
  clear hT hp;unfold cn;obtain⟨Y,K⟩:=N_ (w.alloc (f_ #[e_ d_ T.kind,e_ d_ T.num,g_ T.name,a_ A T.args.length c] 61));have D:Y.heap[w.heap.size]?=c_ (f_ #[e_ d_ T.kind,e_ d_ T.num,g_ T.name,a_ A T.args.length c] 61 (0,0)):=by rw[K];exact r_ _ _
  have G:x_ (n_ w w Y):=Z_ (by rw[K];exact B_.alloc L_ _);have av:x_ (Y.heap.size=w.heap.size+1):=Z_ (by rw[K];simp);have a1:=Z_ D;clear D;have Z:fm (T.args.drop 0) 1=eY T:=by rw[KU,sV]
  have a2:=Z_ Z;clear Z;go_enter Tryz.func200,Tryz.ntmps200;go_wp2;rw[<-K]
  go_loopw [3,4] (λnv iv W=>∃(k:Nat) (n:Int),k<=T.args.length/\nv=e_ d_ n/\iv=e_ d_ k/\x_ (fm (T.args.drop k) n=eY T)/\(1<=n/\n<=2199023255552)/\x_ (n<=300->(n:Int)<=300)/\x_ (n_ Y Y W)) (λnv iv _=>T.args.length - (A_ iv).toNat)
  case atStart=>exact⟨0,_,by omega,rfl,rfl,a2,by omega,Z_ (λh=>h),Z_ B_⟩
  obtain⟨k,n,hk,rfl,rfl,HW,bj,-,X⟩:=hrel;have D:wr.heap[w.heap.size]?=c_ (f_ #[e_ d_ T.kind,e_ d_ T.num,g_ T.name,a_ A T.args.length c] 61 (0,0)):=by
   rw[X.o.block _ (by have:=av.o;omega)];exact a1.o
  obtain⟨y0,y1,y2,y3⟩:=aX D;by_cases M:k<T.args.length
  ·by_cases ad:n<=300
   ·obtain⟨b,off,A',c',rfl,hb,ht,z0,z1,z2,z3⟩:=HT.o.arg M
    have I:n_ w w wr:=G.o.trans (X.o.mono G.o.size);have x0:=(I.cell (p:=⟨b,off+k*4,b_⟩) hb).trans z0;have x1:=(I.cell (p:=⟨b,off+k*4+1,b_⟩) hb).trans z1;have x2:=(I.cell (p:=⟨b,off+k*4+2,b_⟩) hb).trans z2;have x3:=(I.cell (p:=⟨b,off+k*4+3,b_⟩) hb).trans z3;have ba:=Ty.om M;have bb:=HP.o;have O:=IH.o k M _ wr (ht.ae λg hg=>⟨Kc hg I.size,I.block g hg⟩) O_;have V:=sW T.args[k];have ak:1<=eY T.args[k]/\eY T.args[k]<=1099511627776:=⟨V.1,by have:=V.2.1;omega⟩;have HS:=Z_ (vD (ts:=T.args) M ad);clear z0 z1 z2 z3 ht D ba bb V;generalize T.args[k]=U at*;obtain⟨q,hq⟩:=N_ (eY U);rw[<-hq]at ak O HS;unfold cn at O;have bd:=Z_ O;clear O hq;go_wp2_with (go_at_call 200;refine bd.o.mono ?_;rintro e w2 ⟨rfl,bf⟩);go_roundw
    case rel=>exact⟨k+1,n+q,by omega,by go_num,by go_num,Z_ (HS.o.symm.trans HW.o),⟨by omega,by omega⟩,Z_ (λh=>h),Z_ (X.o.trans (bf.mono X.o.size))⟩
    simp[A_];omega
   have t:=HW.o;rw[vE ad]at t;have J:=Z_ t;clear t;go_wp2;go_ret;exact⟨by rw[<-J.o];rfl,G.o.trans (X.o.mono G.o.size)⟩
  have t:=HW.o;rw[yj O_]at t;have J:=Z_ t;clear t;go_wp2;go_ret;exact⟨by rw[<-J.o];rfl,G.o.trans (X.o.mono G.o.size)⟩
theorem uG(T:Ty):∀(v:m_) (w:j_),aG (·<w.heap.size) w v T->pY 1000000000 T->
  H_ h_ 201 #[v] w λe w'=>e=k_ (u_ (gD T))/\n_ w w w':=by
 induction T using Ty.ind with
 |h T ih=>
  intro v w hT av;have IH:=Z_ ih;clear ih;obtain⟨A,c,rfl,hc,hm,hn⟩:=hT.form;have HT:=Z_ hT;have ba:=Z_ av;have bm:T.args.length<=9223372036854775807:=by simp only[JT]at hm;omega
  have HK:x_ (∀W,H_ h_ 148 #[g_ T.name] W λe w'=>∃z,e=k_ (e_ d_ z)/\(z=1↔aY T.name.data.toList=v_)/\n_ W W w'):=Z_ λW=>rJ T.name (av T (by rw[T.dd];exact Lt)) W
  obtain⟨r,hr⟩:=N_ (gV T);have bb:x_ (gD T=(r&&T.args.all gD)):=Z_ (by rw[hr];exact Df T);unfold gV at hr;have Y:=Z_ hr;obtain⟨W1,I⟩:=N_ (w.alloc (f_ #[e_ d_ T.kind,e_ d_ T.num,g_ T.name,a_ A T.args.length c] 61));have a1:W1.heap[w.heap.size]?=c_ (f_ #[e_ d_ T.kind,e_ d_ T.num,g_ T.name,a_ A T.args.length c] 61 (0,0)):=by rw[I];exact r_ _ _
  have J:x_ (n_ w w W1):=Z_ (by rw[I];exact B_.alloc L_ _);have bd:x_ (W1.heap.size=w.heap.size+1):=Z_ (by rw[I];simp);have bf:=Z_ a1;obtain⟨y0,y1,y2,y3⟩:=aX a1;rw[I]at y0 y1 y2 y3;clear hr hT hc hm hn av a1;unfold cn;go_enter Tryz.func201,Tryz.ntmps201
  go_upto_block 0 with fail
  rw[<-I];rw[<-I]at y0 y1 y2 y3;clear I
  go_cut [3] (λv W=>v=u_ r/\x_ (n_ W1 W1 W))
  case first=>
   by_cases O:T.kind=1
   ·have g1:(T.kind==1)=true:=by simp[O]
    have K:=Z_ O;clear O;go_wp2;all_goals(go_meet;refine⟨J7 u_ ?_,Z_ B_⟩;rw[Y.o])
    all_goals first|(simp[*,K.o,dC,ef];done)|(simp[*,K.o,dC,ef];omega)
   by_cases X:T.kind=2
   ·have g1:(T.kind==1)=false:=by simp[O]
    have g2:(T.kind==2)=true:=by simp[X]
    have K:=Z_ X;clear O X;cases G:(T.num==0)with
    |true=>
     have t:T.num=0:=by simpa using G
     have D:=Z_ t;clear t;go_wp2_with (go_at_call 148;refine(HK.o _).mono ?_;rintro e w2 ⟨z,rfl,hz,a2⟩;have bn:(z==1)=aY T.name.data.toList:=by(rw[Bool.eq_iff_iff,<-hz];simp));go_meet;refine⟨J7 u_ ?_,Z_ (by assumption)⟩;rw[Y.o];simp[K.o,D.o]
    |false=>
     have t:¬T.num=0:=by simpa using G
     have D:=Z_ t;clear t;go_wp2;go_meet;refine⟨J7 u_ ?_,Z_ B_⟩;rw[Y.o];simp[K.o,D.o]
   by_cases k3:T.kind=3
   ·have g1:(T.kind==1)=false:=by simp[O]
    have g2:(T.kind==2)=false:=by simp[X]
    have g3:(T.kind==3)=true:=by simp[k3]
    have K:=Z_ k3;clear O X k3;cases G:(T.num==0)with
    |true=>
     have t:T.num=0:=by simpa using G
     have D:=Z_ t;clear t;go_wp2;all_goals(go_meet;refine⟨J7 u_ ?_,Z_ B_⟩;rw[Y.o])
     all_goals first|(simp[*,K.o,D.o,dC,ef];done)|(simp[*,K.o,D.o,dC,ef];omega)
    |false=>
     have t:¬T.num=0:=by simpa using G
     have D:=Z_ t;clear t;go_wp2;go_meet;refine⟨J7 u_ ?_,Z_ B_⟩;rw[Y.o];simp[K.o,D.o]
   by_cases k4:T.kind=4
   ·have g1:(T.kind==1)=false:=by simp[O]
    have g2:(T.kind==2)=false:=by simp[X]
    have g3:(T.kind==3)=false:=by simp[k3]
    have g4:(T.kind==4)=true:=by simp[k4]
    have K:=Z_ k4;clear O X k3 k4;cases G:(T.num==0)with
    |true=>
     have t:T.num=0:=by simpa using G
     have D:=Z_ t;clear t;go_wp2;all_goals(go_meet;refine⟨J7 u_ ?_,Z_ B_⟩;rw[Y.o])
     all_goals first|(simp[*,K.o,D.o,dC,ef];done)|(simp[*,K.o,D.o,dC,ef];omega)
    |false=>
     have t:¬T.num=0:=by simpa using G
     have D:=Z_ t;clear t;go_wp2;go_meet;refine⟨J7 u_ ?_,Z_ B_⟩;rw[Y.o];simp[K.o,D.o]
   have g1:(T.kind==1)=false:=by simpa using O
   have g2:(T.kind==2)=false:=by simpa using X
   have g3:(T.kind==3)=false:=by simpa using k3
   have g4:(T.kind==4)=false:=by simpa using k4
   have bg:x_ (r=o_):=Z_ (by rw[Y.o];simp[O,X,k3,k4]);clear O X k3 k4;go_wp2;go_meet;exact⟨by rw[bg.o],Z_ B_⟩
  obtain⟨rfl,bj⟩:=hcut;clear HK Y y0 y1 y2 y3;go_wp2_with fail
  go_loopw [3,4] (λov iv W=>∃(k:Nat) (ok:Bool),k<=T.args.length/\ov=u_ ok/\iv=e_ d_ k/\x_ (gD T=(ok&&(T.args.drop k).all gD))/\x_ (n_ W1 W1 W)) (λ_ iv _=>T.args.length - (A_ iv).toNat)
  case atStart=>exact⟨0,r,by omega,rfl,rfl,bb,bj⟩
  obtain⟨k,ok,hk,rfl,rfl,HW,HB⟩:=hrel;have ak:wr.heap[w.heap.size]?=c_ (f_ #[e_ d_ T.kind,e_ d_ T.num,g_ T.name,a_ A T.args.length c] 61 (0,0)):=by
   rw[HB.o.block _ (by have:=bd.o;omega)];exact bf.o
  obtain⟨y0,y1,y2,y3⟩:=aX ak;by_cases Z:k<T.args.length
  ·cases ok with
   |true=>
    obtain⟨b,off,A',c',rfl,hb,ht,z0,z1,z2,z3⟩:=HT.o.arg Z;have M:n_ w w wr:=J.o.trans (HB.o.mono J.o.size);have x0:=(M.cell (p:=⟨b,off+k*4,b_⟩) hb).trans z0;have x1:=(M.cell (p:=⟨b,off+k*4+1,b_⟩) hb).trans z1;have x2:=(M.cell (p:=⟨b,off+k*4+2,b_⟩) hb).trans z2;have x3:=(M.cell (p:=⟨b,off+k*4+3,b_⟩) hb).trans z3;have ad:=IH.o k Z _ wr (ht.ae λg hg=>⟨Kc hg M.size,M.block g hg⟩) (λx hx=>ba.o x (by
     rw[T.dd];exact Lj _ (fY (JB Z) hx)))
    have HS:x_ (gD T=(gD T.args[k]&&(T.args.drop (k+1)).all gD)):=Z_ (by
     rw[HW.o,KA Z,List.all_cons,Lk])
    clear z0 z1 z2 z3 ht ak;generalize T.args[k]=U at*;obtain⟨q,hq⟩:=N_ (gD U);rw[<-hq]at ad HS;unfold cn at ad;have bk:=Z_ ad;clear ad hq;go_wp2_with (go_at_call 201;refine bk.o.mono ?_;rintro e w2 ⟨rfl,a2⟩);go_roundw
    case rel=>exact⟨k+1,q,by omega,rfl,by go_num,HS,Z_ (HB.o.trans (a2.mono HB.o.size))⟩
    simp[A_];omega
   |false=>
    have V:x_ (gD T=o_):=Z_ (by rw[HW.o,KC]);go_wp2;go_ret;exact⟨by rw[V.o];rfl,J.o.trans (HB.o.mono J.o.size)⟩
  have V:x_ (gD T=ok):=Z_ (by rw[HW.o,L6 O_];simp);go_wp2;go_ret;exact⟨by rw[V.o];rfl,J.o.trans (HB.o.mono J.o.size)⟩
theorem uF(T:Ty)(v:m_)(w:j_)(hT:aG (·<w.heap.size) w v T)(hp:T.parts<=1099511627776)(hn:pY 1000000000 T):
  H_ h_ 184 #[v] w λe w'=>e=k_ (u_ (cJ T))/\n_ w w w':=by
 obtain⟨A,c,rfl,-⟩:=hT.form;obtain⟨J,t⟩:=N_ (w.alloc (f_ #[e_ d_ T.kind,e_ d_ T.num,g_ T.name,a_ A T.args.length c] 61));have K:J.heap[w.heap.size]?=c_ (f_ #[e_ d_ T.kind,e_ d_ T.num,g_ T.name,a_ A T.args.length c] 61 (0,0)):=by rw[t];exact r_ _ _
 have M:n_ w w J:=by rw[t];exact B_.alloc L_ _
 have D:=Z_ M;have Y:=Z_ K;have O:=hT.fl M;have U:=Bi T _ J O hp;have Z:x_ (∀W,n_ J J W->H_ h_ 201 #[cn T.kind T.num T.name A T.args.length c] W λe w'=>e=k_ (u_ (gD T))/\n_ W W w'):=Z_ λW hW=>uG T _ W (O.fl hW) hn
 have G:=Z_ (sW T);have ad:x_ (cJ T=(decide (T.parts<=300)&&gD T)):=Z_ rfl;obtain⟨y0,y1,y2,y3⟩:=aX K;rw[t]at y0 y1 y2 y3;unfold cn at U Z⊢;have av:=Z_ U;clear hT K M O U;go_enter Tryz.func184,Tryz.ntmps184;go_wp2_with fail;rw[<-t];clear t y0 y1 y2 y3;refine av.o.mono ?_;rintro e w2 ⟨rfl,V⟩;have I:x_ (n_ J J w2):=Z_ V;obtain⟨y0,y1,y2,y3⟩:=aX ((V.block _ (ao Y.o)).trans Y.o);clear V;by_cases h3:T.parts<=300
 ·have hle:eY T<=300:=by have:=G.o;rcases this with⟨_,h1,_⟩;omega
  have X:x_ (cJ T=gD T):=Z_ (by rw[ad.o,JR h3,Lk]);clear G;generalize eY T=ct at*;go_wp2_with fail;refine(Z.o _ I.o).mono ?_;rintro e w3 ⟨rfl,ak⟩;have a1:=Z_ (D.o.trans ((I.o.trans (ak.mono I.o.size)).mono D.o.size));clear ak;go_wp2;go_ret;exact⟨by rw[X.o];rfl,a1.o⟩
 have hle:¬eY T<=300:=by have:=G.o;rcases this with⟨_,h1,h2⟩;omega
 have X:x_ (cJ T=o_):=Z_ (by rw[ad.o,JJ h3,KC]);clear G;generalize eY T=ct at*;go_wp2;go_ret;exact⟨by rw[X.o];rfl,D.o.trans (I.o.mono D.o.size)⟩
end Go.Proofs.YtaalbcfpacpgfaaGreat
namespace Go.Typ
mutual
def eQ(L:List Int):Ty->Ty
 | .mk k n s ts=>if k=1 then(if n∈L then .mk 1 (L.idxOf n) ⟨#[]⟩ []else .mk k n s ts)else .mk k n s (Ay L ts)
def Ay(L:List Int):List Ty->List Ty
 |[]=>[]
 |a::ts=>eQ L a::Ay L ts
end
variable{L:List Int}
theorem BR(L:List Int)(ts:List Ty):Ay L ts=ts.map (eQ L):=by
 induction ts with
 |nil=>rfl
 |cons a ts t=>rw[Ay,t];rfl
theorem Az{T:Ty}(h:T.kind=1)(hn:T.num∈L):eQ L T=.mk 1 (L.idxOf T.num) ⟨#[]⟩ []:=by
 obtain⟨k,n,s,ts⟩:=T;simp only[Ty.kind,Ty.num]at h hn⊢;rw[eQ,G_ h,G_ hn]
theorem D1{T:Ty}(h:T.kind=1)(hn:T.num∉L):eQ L T=T:=by
 obtain⟨k,n,s,ts⟩:=T;simp only[Ty.kind,Ty.num]at h hn⊢;rw[eQ,G_ h,I_ hn]
theorem rM{T:Ty}(h:¬T.kind=1):eQ L T=.mk T.kind T.num T.name (T.args.map (eQ L)):=by
 obtain⟨k,n,s,ts⟩:=T;simp only[Ty.kind,Ty.num,Ty.name,Ty.args]at h⊢;rw[eQ,I_ h,BR]
theorem Dn{k:Nat}{n:Int}(t:k<L.length)(h:L[k]=n)(D:n∉L.take k):n∈L/\L.idxOf n=k:=by
 have hm:n∈L:=by rw[<-h];exact JB t
 refine⟨hm,?_⟩
 induction L generalizing k with
 |nil=>cases hm
 |cons a L I=>
  cases k with
  |zero=>simp only[List.getElem_cons_zero]at h;rw[h];simp
  |succ k=>
   simp only[List.getElem_cons_succ,Jz,Nat.add_lt_add_iff_right,List.take_succ_cons,JL,not_or]at h t D;have G:(a==n)=false:=by simp;exact λe=>D.1 e.symm
   rw[List.idxOf_cons,G];simp only[cond_false];rw[I t h D.2 (by rw[<-h];exact JB t)]
end Go.Typ
namespace Go.Proofs.YtaalbcfpacpgfaaGreat
open Go.RowKit Go.Lib Go.Vfs Go.Par Go.Typ Go.Shelf
def pZ(L:List Int)(T:Ty)(w:j_)(e:Ending)(w':j_):Prop:=
 ∃A c,e=k_ (cn (eQ L T).kind (eQ L T).num (eQ L T).name A (eQ L T).args.length c)/\aG (λg=>w.heap.size<=g/\g<w'.heap.size) w' (cn (eQ L T).kind (eQ L T).num (eQ L T).name A (eQ L T).args.length c) (eQ L T)/\n_ w.heap.size w w'
theorem rN{L:List Int}{T R:Ty}(t:eQ L T=R){w w':j_}{A:Option Addr}{c:Nat}(h:aG (λg=>w.heap.size<=g/\g<w'.heap.size) w' (cn R.kind R.num R.name A R.args.length c) R)(D:n_ w w w'):pZ L T w (k_ (cn R.kind R.num R.name A R.args.length c)) w':=by
 subst t;exact⟨A,c,rfl,h,D⟩
theorem wZ(B:Nat)(L:List Int)(hL:L.length<=1000000000)(lv:m_)(T:Ty):∀(v:m_) (w:j_),B<=w.heap.size->bw w B lv (ints L)->aG (·<w.heap.size) w v T->T.parts<=1099511627776->(∀x∈T.list,x.kind=1->x.args=[])->
  H_ h_ 185 #[v,lv] w (pZ L T w):=by
 induction T using Ty.ind with
 |h T ih=>
  intro v w hB hS hT hp bO;have IH:=Z_ ih;clear ih;obtain⟨P,hP⟩:=N_ (pZ L T w);have bd:=Z_ hP;rw[<-hP];clear hP;obtain⟨A,c,rfl,hc,hm,hn⟩:=hT.form;obtain⟨Al,cl,rfl,c7,av,bR⟩:=hS.open_ints;have c8:T.args.length<=1099511627776:=by have:=eO T.args;rw[T.parts_eq]at hp;omega
  obtain⟨O,I⟩:=N_ ((w.alloc (f_ #[e_ d_ T.kind,e_ d_ T.num,g_ T.name,a_ A T.args.length c] 61)).alloc (f_ #[e_ d_ 0,e_ d_ 0,g_ ⟨#[]⟩,a_ b_ 0 0] 61));have hL:ky w O w T A c:=by
   refine⟨?_,by rw[I];simp;omega,Kh _,by rw[I];exact(B_.alloc L_ _).alloc (by simp) _,hT⟩;rw[I,z_ _ _ _ (by simp)];exact r_ _ _
  have D:O.heap[w.heap.size+1]?=c_ (f_ #[e_ d_ 0,e_ d_ 0,g_ ⟨#[]⟩,a_ b_ 0 0] 61 (0,0)):=by
   rw[I];have:=r_ (w.alloc (f_ #[e_ d_ T.kind,e_ d_ T.num,g_ T.name,a_ A T.args.length c] 61)) (f_ #[e_ d_ 0,e_ d_ 0,g_ ⟨#[]⟩,a_ b_ 0 0] 61);simpa using this
  have bf:O.heap.size=w.heap.size+2:=by rw[I];simp
  have b0:bw O B (a_ Al L.length cl) (ints L):=hS.below (hL.below.mono hB);obtain⟨y0,y1,y2,y3⟩:=aX hL.box;obtain⟨r0,r1,r2,r3⟩:=aX D;obtain⟨s0,s1,s2,s3⟩:=aC D;have HL:=Z_ hL;have bg:=Z_ D;have HP:=Z_ hp;have Z:=Z_ bf;have HB:=Z_ hB;have b1:=Z_ b0;have b2:=Z_ bO;have b3:=Z_ hn;have ch:=Z_ hm;rw[I]at y0 y1 y2 y3;clear hT hL D hp bf hB hS b0 bR bO hn hc hm;unfold cn;by_cases k1:T.kind=1
  ·have h1:(T.kind==1)=true:=by simp[k1]
   have K1:=Z_ k1;clear k1 r0 r1 r2 r3 s0 s1 s2 s3;go_enter Tryz.func185,Tryz.ntmps185;go_wp2;rw[<-I];clear I y0 y1 y2 y3 h1
   go_loopw [5] (λiv W=>∃(k:Nat),k<=L.length/\iv=e_ d_ k/\x_ (T.num∉L.take k)/\∃n,W=O.drewN n) (λiv _=>L.length - (A_ iv).toNat)
   case atStart=>exact⟨0,by omega,rfl,Z_ (by simp),0,rfl⟩
   obtain⟨k,hk,rfl,HA,n0,rfl⟩:=hrel;obtain⟨y0,y1,y2,y3⟩:=aX HL.o.box;obtain⟨A0,c0,e0,c9,df,bj⟩:=b1.o.open_ints;injection e0 with e1 _ e2;subst e1 e2;by_cases J:k<L.length
   ·obtain⟨b,off,x,rfl,hb,hx,HX⟩:=bj.int J
    have b5:L.getD k 0=L[k]:=by rw[s_,w_ J];rfl
    have b6:x_ (L[k]=x):=Z_ (by rw[<-HX.o,b5]);have bk:x_ (L.take (k+1)=L.take k++[L[k]]):=Z_ (by rw[y_ J]);clear b5 bj;go_wp2_with fail
    go_quiet (fail)
    by_cases he:x=T.num
    ·have HE:x_ (eQ L T=.mk 1 (k:Nat) ⟨#[]⟩ []):=Z_ (by
      obtain⟨h1,h2⟩:=Dn J (b6.o.trans he) HA.o;rw[Az K1.o h1,h2])
     have heq:(x==T.num)=true:=by simp[he]
     clear he;obtain⟨W2,G⟩:=N_ ((O.drewN n0).drewN nq);have hh:W2.heap=O.heap:=by rw[G];rfl
     have t:W2.heap[w.heap.size+1]?=c_ (f_ #[e_ d_ 0,e_ d_ 0,g_ ⟨#[]⟩,a_ b_ 0 0] 61 (0,0)):=by rw[hh];exact bg.o
     obtain⟨Wf,K,X,ad⟩:=sx (e_ d_ 1) (e_ d_ k) (g_ ⟨#[]⟩) (a_ b_ 0 0) t;obtain⟨u0,u1,u2,u3⟩:=aX t;obtain⟨v0,v1,v2,v3⟩:=aC t;have bm:x_ (n_ w w Wf):=Z_ (((Kept.ar (HL.o.below)).trans' (F:=λg=>g=w.heap.size+1) ⟨by rw[G];rfl,by rw[G];rfl,by rw[G];rfl,by rw[hh];exact Kh _,λg _ _=>by rw[hh]⟩|>.trans' ad).below L_ (λg hg=>by omega));have ak:=Z_ X;have bn:=Z_ K;rw[<-G];clear t X ad K hh G;go_wp2;rw[<-bn.o];obtain⟨f0,f1,f2,f3⟩:=aX ak.o;refine C_ (v:=JI #[e_ d_ 1,e_ d_ k,g_ ⟨#[]⟩,a_ b_ 0 0]) (by simp[results,Tryz.results185,go_sem,f0,f1,f2,f3]) rfl ?_;rw[bd.o];exact rN HE.o (aG.leaf _ _ 1 k ⟨#[]⟩ b_ 0 (by simp[JT]) (by decide)) bm.o
    have ck:x_ (T.num∉L.take (k+1)):=Z_ (by
     rw[bk.o];intro h;rcases KI.1 h with h|h
     ·exact HA.o h
     rw[KV.1 h]at he;exact he b6.o.symm)
    have heq:(x==T.num)=false:=by simp[he]
    clear he;go_wp2;go_roundw
    case rel=>exact⟨k+1,by omega,by go_num,ck,n0+nq,rfl⟩
    simp[A_];omega
   have a1:k=L.length:=by omega
   have HE:x_ (eQ L T=T):=Z_ (D1 K1.o (by have:=HA.o;rw[a1,JO]at this;exact this));obtain⟨W2,G⟩:=N_ (O.drewN n0);have hh:W2.heap=O.heap:=by rw[G];rfl
   have t:W2.heap[w.heap.size+1]?=c_ (f_ #[e_ d_ 0,e_ d_ 0,g_ ⟨#[]⟩,a_ b_ 0 0] 61 (0,0)):=by rw[hh];exact bg.o
   obtain⟨Wf,K,X,ad⟩:=sx (e_ d_ T.kind) (e_ d_ T.num) (g_ T.name) (a_ A T.args.length c) t;obtain⟨u0,u1,u2,u3⟩:=aX t;obtain⟨v0,v1,v2,v3⟩:=aC t;have ba:W2.heap[w.heap.size]?=c_ (f_ #[e_ d_ T.kind,e_ d_ T.num,g_ T.name,a_ A T.args.length c] 61 (0,0)):=by rw[hh];exact HL.o.box
   obtain⟨y0,y1,y2,y3⟩:=aX ba;have bm:x_ (n_ w w Wf):=Z_ (((Kept.ar (HL.o.below)).trans' (F:=λg=>g=w.heap.size+1) ⟨by rw[G];rfl,by rw[G];rfl,by rw[G];rfl,by rw[hh];exact Kh _,λg _ _=>by rw[hh]⟩|>.trans' ad).below L_ (λg hg=>by omega));have cm:x_ (aG (λg=>w.heap.size<=g/\g<Wf.heap.size) Wf (cn T.kind T.num T.name A T.args.length c) T):=Z_ (by
    have h0:=b2.o T (by rw[T.dd];exact Lt) K1.o;have cp:=ch.o;have cr:=b3.o;obtain⟨tk,tn,ts,ta⟩:=T;simp only[Ty.args]at h0;subst h0;exact aG.leaf _ _ _ _ _ _ _ cp cr)
   have ak:=Z_ X;have bn:=Z_ K;rw[<-G];clear t X ad K hh G ba bj a1;go_wp2;rw[<-bn.o];obtain⟨f0,f1,f2,f3⟩:=aX ak.o;refine C_ (v:=JI #[e_ d_ T.kind,e_ d_ T.num,g_ T.name,a_ A T.args.length c]) (by simp[results,Tryz.results185,go_sem,f0,f1,f2,f3]) rfl ?_;rw[bd.o];exact rN HE.o cm.o bm.o
  have h1:(T.kind==1)=false:=by simp[k1]
  have HE:x_ (eQ L T=.mk T.kind T.num T.name (T.args.map (eQ L))):=Z_ (rM k1);clear k1 r0 r1 r2 r3 s0 s1 s2 s3;go_enter Tryz.func185,Tryz.ntmps185;go_wp2;rw[<-I];clear I y0 y1 y2 y3 h1
  go_loopw [6,7] (λsv iv W=>∃(k:Nat) (us:List m_),k<=T.args.length/\iv=e_ d_ k/\x_ (az 61 4 aG O O W ((T.args.take k).map (eQ L)) sv us)/\x_ (n_ O O W)) (λ_ iv _=>T.args.length - (A_ iv).toNat)
  case atStart=>
   refine⟨0,[],by omega,rfl,Z_ ?_,Z_ (B_.alloc L_ _)⟩;have h:=az.made (e:=61) (k:=4) (R:=aG) (L:=O.heap.size) (B:=O.heap.size) O L_;rw[Z.o]at h⊢;exact h
  obtain⟨k,us,hk,rfl,HR,M⟩:=hrel;obtain⟨y0,y1,y2,y3⟩:=aX (HL.o.Gp M.o);obtain⟨q0,q1,q2,q3⟩:=aC (HL.o.Gp M.o);by_cases J:k<T.args.length
  ·obtain⟨b,off,A',c',rfl,hb,ht,x0,x1,x2,x3⟩:=(HL.o.Iu M.o).arg J
   have ct:=M.o.size;have a2:=IH.o k J _ wr (by have:=HB.o;have:=Z.o;omega) (b1.o.below (M.o.mono (by have:=HB.o;have:=Z.o;omega))) ht (by have:=Ty.om J;have:=HP.o;omega) (λx hx=>b2.o x (by rw[T.dd];exact Lj _ (fY (JB J) hx)));have bk:x_ ((T.args.take (k+1)).map (eQ L)=(T.args.take k).map (eQ L)++[eQ L T.args[k]]):=Z_ (by rw[y_ J,Lb];rfl);have cb:((T.args.take k).map (eQ L)).length=k:=by rw[KL,JN];omega
   have cd:=Z_ cb;clear ht cb;unfold pZ at a2;generalize eQ L T.args[k]=U at*;generalize T.args[k]=V at*;unfold cn at a2;have cu:=Z_ a2;clear a2;go_wp2_with fail;refine cu.o.mono ?_;rintro e w2 ⟨A2,c2,rfl,hu,bo⟩;have bp:=az.below (R:=aG) aG.ae HR.o bo;have cv:=Z_ bp;have HU:=Z_ hu;have Y:=bp.own;rw[cd.o]at Y;obtain⟨cx,bt⟩:=N_ (us.flatMap cX);rw[<-bt]at Y;have dv:=bo.size;have cB:=Z_ bt;clear bp hu bt;go_wp2_with (at_builtin;refine dc _ rfl _ _ _ rfl O _ 4 Iv _ k cx rfl (Kf Y _) ⟨w2,0,b_⟩ 1 1 [e_ d_ U.kind,e_ d_ U.num,g_ U.name,a_ A2 U.args.length c2] rfl rfl (bF _ _ _) (yE _ _ _ _ _ _) O_ (by simp;omega) ?_;intro v3 w3 bx cf cg);go_roundw
   case rel=>
    refine⟨k+1,us++[JI #[e_ d_ U.kind,e_ d_ U.num,g_ U.name,a_ A2 U.args.length c2]],by omega,by go_num,Z_ ?_,Z_ ?_⟩
    ·rw[bk.o]
     refine az.next (R:=aG) aG.ae cv.o HU.o (λg hg=>⟨by omega,hg.2,λe=>?_⟩) rfl _ ?_ cf cg
     ·have:=HR.o.lt g e;omega
     rw[cd.o,<-cB.o];exact bx
    exact bK (M.o.trans (bo.mono ct)) O_ _ cf (λg e=>(Y.lt g e).1)
   simp[A_];omega
  have a1:k=T.args.length:=by omega
  subst a1;have hr:=HR.o;rw[JO]at hr;obtain⟨A2,c2,rfl,bB⟩:=hr.ty T.kind T.num T.name b3.o;obtain⟨ml,av⟩:=N_ ((T.args.map (eQ L)).length);have cE:=Z_ av;rw[<-av]at bB HR⊢;have D:wr.heap[w.heap.size+1]?=c_ (f_ #[e_ d_ 0,e_ d_ 0,g_ ⟨#[]⟩,a_ b_ 0 0] 61 (0,0)):=by
   rw[M.o.block _ (by have:=Z.o;omega)];exact bg.o
  obtain⟨r0,r1,r2,r3⟩:=aX D;obtain⟨s0,s1,s2,s3⟩:=aC D;have cF:=Z_ bB;have c6:=Z_ D;clear bB hr D av;go_wp2;obtain⟨Wf,K⟩:=N_ ((((((wr.setCell ⟨w,3,b_⟩ (a_ A2 ml c2)).setCell ⟨w+1,0,b_⟩ (e_ d_ T.kind)).setCell ⟨w+1,1,b_⟩ (e_ d_ T.num)).setCell ⟨w+1,2,b_⟩ (g_ T.name)).setCell ⟨w+1,3,b_⟩ (a_ A2 ml c2)));have bN:Kept (λg=>g=w.heap.size\/g=w.heap.size+1) wr Wf:=by
   rw[K];exact Aa ((Kept.refl _ _).setCell (p:=⟨w,3,b_⟩) (.inl (.inl rfl)) _) (.inl (.inr rfl))
  have X:Wf.heap[w.heap.size+1]?=c_ (f_ #[e_ d_ T.kind,e_ d_ T.num,g_ T.name,a_ A2 ml c2] 61 (0,0)):=by
   rw[K];refine Fg (u0:=e_ d_ 0) (u1:=e_ d_ 0) (u2:=g_ ⟨#[]⟩) (u3:=a_ b_ 0 0) ?_;rw[JZ _ _ _ _ (by simp)];exact c6.o
  have bf:=Z.o;have eb:=M.o.size;have ec:=bN.size;rw[<-K];obtain⟨f0,f1,f2,f3⟩:=aX X;refine C_ (v:=JI #[e_ d_ T.kind,e_ d_ T.num,g_ T.name,a_ A2 ml c2]) (by simp[results,Tryz.results185,go_sem,f0,f1,f2,f3]) rfl ?_;rw[bd.o];have bb:aG (λg=>w.heap.size<=g/\g<Wf.heap.size) Wf (cn T.kind T.num T.name A2 ml c2) (.mk T.kind T.num T.name (T.args.map (eQ L))):=cF.o.ae λg hg=>⟨by omega,bN.block g hg.2 O_⟩
  rw[cE.o]at bb⊢;exact rN HE.o bb ((HL.o.all M.o).trans (bN.below O_ (λg hg=>by omega)))
end Go.Proofs.YtaalbcfpacpgfaaGreat
namespace Go.Typ
open Go.RowKit Go.Lib Go.Vfs Go.Par
mutual
def uL(f:Int->Int):Ty->Ty
 | .mk k n s ts=>if k=1 then .mk 1 (f n) ⟨#[]⟩ []else .mk k 0 s (Fj f ts)
def Fj(f:Int->Int):List Ty->List Ty
 |[]=>[]
 |t::ts=>uL f t::Fj f ts
end
variable{n:Int}
theorem DZ(f:Int->Int)(ts:List Ty):Fj f ts=ts.map (uL f):=by
 induction ts with
 |nil=>rfl
 |cons t ts D=>rw[Fj,D,Ks]
theorem AA(f:Int->Int)(T:Ty):uL f T=if T.kind=1 then .mk 1 (f T.num) ⟨#[]⟩ []else .mk T.kind 0 T.name (T.args.map (uL f)):=by
 obtain⟨k,n,s,ts⟩:=T;rw[uL,DZ];rfl
theorem wE(met:List Int)(n:Int):n∈iH met n:=by
 unfold iH;split
 ·assumption
 simp
theorem DE(met:List Int)(n:Int):met<+:iH met n:=by
 unfold iH;split
 ·exact List.prefix_refl _
 exact List.prefix_append _ _
theorem mu:∀{a:List Int},n∈a->∀b,(a++b).idxOf n=a.idxOf n
 |[],h,_=>by simp at h
 |x::a,h,b=>by
  rw[Ka,List.idxOf_cons,List.idxOf_cons];by_cases e:(x==n)=v_
  ·rw[e];rfl
  simp only[Bool.not_eq_true]at e;rw[e];have hx:¬n=x:=λh2=>by rw[h2]at e;simp at e
  simp only[cond_false];rw[mu ((JL.1 h).resolve_left hx) b]
theorem Bt{a L:List Int}(h:n∈a)(hp:a<+:L):L.idxOf n=a.idxOf n:=by
 obtain⟨b,rfl⟩:=hp;exact mu h b
theorem mw:∀{met:List Int},n∉met->(met++[n]).idxOf n=met.length
 |[],_=>by simp
 |x::met,h=>by
  have hx:(x==n)=false:=by simpa using λe=>h (by simp[e])
  rw[Ka,List.idxOf_cons,hx];simp only[cond_false,Jz];rw[mw (λh2=>h (by simp[h2]))]
theorem DB(met:List Int)(n:Int):(iH met n).idxOf n=met.idxOf n:=by
 by_cases h:n∈met
 ·unfold iH;rw[G_ h]
 unfold iH;rw[I_ h,od h,mw h]
theorem Be(T:Ty):∀met:List Int,met<+:(bY T met).2:=by
 induction T using Ty.ind with
 |h T G=>
  intro met;rw[fV];split
  ·exact DE _ _
  have key:∀ts:List Ty,(∀t∈ts,∀met:List Int,met<+:(bY t met).2)->∀met:List Int,met<+:(bL ts met).2:=by
   intro ts
   induction ts with
   |nil=>intro _ met;rw[bL];exact List.prefix_refl _
   |cons t ts D=>intro h met;rw[bL];exact(h t (by simp) met).trans (D (λx hx=>h x (by simp[hx])) _)
  exact key _ (λt I=>by obtain⟨i,hi,rfl⟩:=J4 I;exact G i hi) met
theorem mg:∀(ts:List Ty) (met:List Int),met<+:(bL ts met).2
 |[],met=>by rw[bL];exact List.prefix_refl _
 |t::ts,met=>by rw[bL];exact(Be t met).trans (mg ts _)
theorem Bf(T:Ty):∀(met L:List Int),(bY T met).2<+:L->(bY T met).1=uL (λn=>(L.idxOf n:Int)) T:=by
 induction T using Ty.ind with
 |h T J=>
  intro met L D;rw[AA];rw[fV]at D⊢;split
  ·rename_i G
   rw[G_ G]at D;simp only at D⊢;rw[Bt (wE met T.num) D,DB]
  rename_i G
  rw[I_ G]at D;simp only at D⊢;have key:∀ts:List Ty,(∀t∈ts,∀(met L:List Int),(bY t met).2<+:L->(bY t met).1=uL (λn=>(L.idxOf n:Int)) t)->∀met:List Int,(bL ts met).2<+:L->(bL ts met).1=ts.map (uL (λn=>(L.idxOf n:Int))):=by
   intro ts
   induction ts with
   |nil=>intro _ met _;rw[bL];rfl
   |cons t ts I=>
    intro h met D;rw[bL]at D⊢;simp only at D⊢;rw[Ks,h t (by simp) met L ((mg ts _).trans D),I (λx hx=>h x (by simp[hx])) _ D]
  rw[key T.args (λt K=>by obtain⟨i,hi,rfl⟩:=J4 K;exact J i hi) met D]
theorem Bd(T:Ty):∀(met:List Int),∀x∈T.list,x.kind=1->T.args=[]\/¬T.kind=1->(∀y∈T.list,y.kind=1->y.args=[])->x.num∈(bY T met).2:=by
 induction T using Ty.ind with
 |h T U=>
  intro met x hx D V M;rw[T.dd]at hx;rw[fV];rcases JL.1 hx with rfl|hx
  ·rw[G_ D];exact wE _ _
  have J:¬T.kind=1:=by
   rcases V with h|h
   ·rw[h]at hx;simp[di]at hx
   exact h
  rw[I_ J];have key:∀ts:List Ty,(∀t∈ts,∀met:List Int,∀x∈t.list,x.kind=1->x.num∈(bY t met).2)->∀met:List Int,∀x∈di ts,x.kind=1->x.num∈(bL ts met).2:=by
   intro ts
   induction ts with
   |nil=>intro _ met x hx;simp[di]at hx
   |cons t ts K=>
    intro h met x hx D;rw[bL];rw[di]at hx;rcases KI.1 hx with hx|hx
    ·exact(mg ts _).subset (h t (by simp) met x hx D)
    exact K (λy G=>h y (by simp[G])) _ x hx D
  refine key T.args (λt O met x hx D=>?_) met x hx D;have I:∀y∈t.list,y∈T.list:=λy G=>by rw[T.dd];exact Lj _ (fY O G)
  obtain⟨i,hi,rfl⟩:=J4 O;refine U i hi met x hx D ?_ (λy G=>M y (I y G));by_cases h1:T.args[i].kind=1
  ·exact .inl (M _ (I _ (by rw[Ty.dd];exact Lt)) h1)
  exact .inr h1
end Go.Typ
namespace Go.Proofs.YtaalbcfpacpgfaaGreat
open Go.RowKit Go.Lib Go.Vfs Go.Par Go.Typ Go.Shelf
structure IJ(T R:Ty)(L:List Int):Prop where
 right:cJ R=v_
 again:mh R=R
 vars:(bY R []).2=(List.range L.length).map (λi:Nat=>(i:Int))
 Jt:FK T R=v_
 IV:FK R T=v_
 IX:yz (λ_ U=>U.args=[]) T R
 Hd:yz (λ_ U=>U.args=[]) R T
 len:L.length<=300
end Go.Proofs.YtaalbcfpacpgfaaGreat
namespace Go.Typ
open Go.RowKit Go.Lib Go.Vfs Go.Par
theorem vV{T:Ty}(h:gV T=v_)(t:¬T.kind=1):T.num=0:=by
 rcases eu h with⟨h1,_⟩|⟨_,h1,_⟩|⟨_,h1,_⟩|⟨_,h1,_⟩
 ·exact absurd h1 t
 ·exact h1
 ·exact h1
 exact h1
theorem D2(L:List Int)(T:Ty):fR T->(∀x∈T.list,x.kind=1->x.num∈L)->eQ L T=uL (λn=>(L.idxOf n:Int)) T:=by
 induction T using Ty.ind with
 |h T I=>
  intro D G;rw[AA];by_cases t:T.kind=1
  ·rw[G_ t,Az t (G T (by rw[T.dd];exact Lt) t)]
  rw[I_ t,rM t,vV D.self t]
  congr 1
  apply List.map_congr_left;intro a J;obtain⟨i,hi,rfl⟩:=J4 J;exact I i hi (D.arg hi) λx hx=>G x (by rw[T.dd];exact Lj _ (fY (JB hi) hx))
theorem qX{T:Ty}(h:fR T):∀x∈T.list,x.kind=1->x.args=[]:=λx hx D=>by
 rcases eu (h x hx)with⟨_,_,_,_,t⟩|⟨h1,_⟩|⟨h1,_⟩|⟨h1,_⟩
 ·exact JH t
 ·omega
 ·omega
 omega
end Go.Typ
namespace Go.Proofs.YtaalbcfpacpgfaaGreat
open Go.RowKit Go.Lib Go.Vfs Go.Par Go.Typ Go.Shelf
theorem Bx{W:j_}{r b:Nat}{v0 v1 v2 v3:m_}(h:b≠r):((((W.setCell ⟨r,0,b_⟩ v0).setCell ⟨r,1,b_⟩ v1).setCell ⟨r,2,b_⟩ v2).setCell ⟨r,3,b_⟩ v3).heap[b]?=W.heap[b]?:=by
 rw[JZ _ _ _ _ h,JZ _ _ _ _ h,JZ _ _ _ _ h,JZ _ _ _ _ h]
theorem yT{T:Ty}(h:cJ T=v_):eQ (bY T []).2 T=mh T:=by
 have t:=(cU.1 h).2;rw[D2 _ T t λx hx G=>Bd T [] x hx G (by
  by_cases D:T.kind=1
  ·exact .inl (qX t T (by rw[T.dd];exact Lt) D)
  exact .inr D) (qX t)]
 unfold mh;rw[G_ h,Bf T [] _ (List.prefix_refl _)]
def qn(T:Ty)(w:j_)(e:Ending)(w':j_):Prop:=
 ∃(R:Ty) (A:Option Addr) (cc:Nat),e=k_ (J_ #[cn R.kind R.num R.name A R.args.length cc,e_ d_ (if cJ T then 0 else 120)])/\aG (λg=>w.heap.size<=g/\g<w'.heap.size) w' (cn R.kind R.num R.name A R.args.length cc) R/\n_ w.heap.size w w'/\R=mh T
theorem yM(T:Ty)(v:m_)(w:j_)(hT:aG (·<w.heap.size) w v T)(bO:T.parts<=1099511627776)(bR:pY 1000000000 T):H_ h_ 160 #[v] w (qn T w):=by
 obtain⟨P,hP⟩:=N_ (qn T w);have b0:=Z_ hP;rw[<-hP];clear hP;obtain⟨A,c,rfl,hc,hm,hn⟩:=hT.form;obtain⟨W1,O⟩:=N_ ((w.alloc (f_ #[e_ d_ T.kind,e_ d_ T.num,g_ T.name,a_ A T.args.length c] 61)).alloc (f_ #[e_ d_ 0,e_ d_ 0,g_ ⟨#[]⟩,a_ b_ 0 0] 61));have bj:n_ w w W1:=by rw[O];exact(B_.alloc L_ _).alloc (by simp) _
 have bk:W1.heap[w.heap.size]?=c_ (f_ #[e_ d_ T.kind,e_ d_ T.num,g_ T.name,a_ A T.args.length c] 61 (0,0)):=by
  rw[O,z_ _ _ _ (by simp)];exact r_ _ _
 have bd:W1.heap[w.heap.size+1]?=c_ (f_ #[e_ d_ 0,e_ d_ 0,g_ ⟨#[]⟩,a_ b_ 0 0] 61 (0,0)):=by
  rw[O];have:=r_ (w.alloc (f_ #[e_ d_ T.kind,e_ d_ T.num,g_ T.name,a_ A T.args.length c] 61)) (f_ #[e_ d_ 0,e_ d_ 0,g_ ⟨#[]⟩,a_ b_ 0 0] 61);simpa using this
 have ak:W1.heap.size=w.heap.size+2:=by rw[O];simp
 have bm:aG (·<w.heap.size) W1 (cn T.kind T.num T.name A T.args.length c) T:=hT.ae λg hg=>⟨hg,bj.block g hg⟩
 have b1:=uF T _ W1 (bm.sub λg (hg:g<w)=>by omega) bO bR;have b2:=Z_ b1;have ct:=Z_ bk;have cu:=Z_ bd;have cv:=Z_ ak;have cx:=Z_ bm;have cB:=Z_ bj;obtain⟨y0,y1,y2,y3⟩:=aX bk;rw[O]at y0 y1 y2 y3;clear hT bm b1 bk bd ak bj hc hm hn bO bR;unfold cn at b2⊢;go_enter Tryz.func160,Tryz.ntmps160;go_wp2_with fail;rw[<-O];clear O y0 y1 y2 y3;refine b2.o.mono ?_;rintro e t ⟨rfl,U⟩;have ak:=cv.o;have b3:=U.size;have G:=(U.block w O_).trans ct.o;have D:=(U.block (w+1) O_).trans cu.o;have bn:aG (·<w.heap.size) t (cn T.kind T.num T.name A T.args.length c) T:=cx.o.ae λg hg=>⟨hg,U.block g O_⟩
 have V:n_ w w t:=cB.o.trans (U.mono O_);have eb:=Z_ G;have ec:=Z_ D;have b5:=Z_ bn;have b6:=Z_ V;have cE:x_ (w.heap.size+2<=t.heap.size):=Z_ O_;cases hr:cJ T with
 |false=>
  obtain⟨Wf,av,a1,I⟩:=sx (e_ d_ 0) (e_ d_ 0) (g_ ⟨#[]⟩) (a_ b_ 0 0) D;obtain⟨r0,r1,r2,r3⟩:=aX D;obtain⟨s0,s1,s2,s3⟩:=aC D;have HE:x_ (P (k_ (J_ #[JI #[e_ d_ 0,e_ d_ 0,g_ ⟨#[]⟩,a_ b_ 0 0],e_ d_ 120])) Wf):=Z_ (by
   rw[b0.o];have h5:=I.size;exact⟨FU,b_,0,by rw[hr];rfl,aG.leaf _ _ 0 0 ⟨#[]⟩ b_ 0 (by simp[JT]) (by decide),V.trans (ja (p:=w.heap.size+1) I O_ O_),by unfold mh;rw[hr];rfl⟩)
  have bo:=Z_ a1;have bp:=Z_ av;clear hr D G bn V a1 I av U ak b3;go_wp2;rw[<-bp.o];obtain⟨f0,f1,f2,f3⟩:=aX bo.o;refine C_ (v:=J_ #[JI #[e_ d_ 0,e_ d_ 0,g_ ⟨#[]⟩,a_ b_ 0 0],e_ d_ 120]) (by simp[results,Tryz.results160,go_sem,f0,f1,f2,f3]) rfl ?_;exact HE.o
 |true=>
  have cF:=(cU.1 hr).1;have hF:=(cU.1 hr).2;obtain⟨W3,bt⟩:=N_ (t.drew.alloc (f_ #[] 3));have J:n_ t t W3:=by rw[bt];exact(JG t t).drew.alloc L_ _
  have bf:Par.Own W3 t 3 (a_ (c_ ⟨t,0,b_⟩) 0 0) (ints []):=by
   rw[bt];exact Own.new t.drew t 3 #[] (ints []) rfl L_ (by simp[ints])
  have cb:=Et t T [] _ _ W3 J.size (b5.o.ae λg hg=>⟨by omega,J.block g O_⟩) bf (by simp;omega);have hlen:(bY T []).2.length<=300:=by have:=qE T [];simp at this;omega
  have bx:=yT hr;generalize hL:(bY T []).2=L at*;obtain⟨R,hR⟩:=N_ (eQ L T);rw[<-hR]at bx;have bB:∀(Z:j_) (v4:m_),Par.Own Z t 3 v4 (ints L)->Gr W3 Z (a_ (c_ ⟨t,0,b_⟩) 0 0) v4->H_ h_ 185 #[cn T.kind T.num T.name A T.args.length c,v4] Z (λe w'=>(∃A5 c5,e=k_ (JI #[e_ d_ R.kind,e_ d_ R.num,g_ R.name,a_ A5 R.args.length c5])/\aG (λg=>Z.heap.size<=g/\g<w'.heap.size) w' (JI #[e_ d_ R.kind,e_ d_ R.num,g_ R.name,a_ A5 R.args.length c5]) R/\n_ Z Z w')/\n_ t t Z):=λZ v4 ho hg=>by
   have c6:n_ t W3 Z:=hg.below J.size (λg e=>by have e2:t.heap.size=g:=Option.some.inj e;omega);have ad:=J.trans c6;exact(wZ Z L O_ v4 T _ Z L_ ho.dH (b5.o.ae λg (ee:g<w)=>⟨by have:=ad.size;omega,ad.block g O_⟩) O_ (qX hF)).mono λe w' h=>⟨by rw[hR];exact h,ad⟩
  have a2:H_ h_ 186 #[a_ (c_ ⟨t,0,b_⟩) 0 0,cn T.kind T.num T.name A T.args.length c] W3 λe w'=>∃v',e=k_ v'/\Par.Own w' t 3 v' (ints L)/\Gr W3 w' (a_ (c_ ⟨t,0,b_⟩) 0 0) v'/\n_ t t w':=by
   refine cb.mono ?_;rintro e w' ⟨v',h1,h2,h3⟩;exact⟨v',h1,h2,h3,J.trans (h3.below J.size (λg e=>by have e2:t.heap.size=g:=Option.some.inj e;omega))⟩
  have bg:=ao G;have ba:x_ (∀W':j_,W'.heap[w.heap.size]?=t.heap[w.heap.size]?->W'.cell? ⟨w,0,b_⟩=c_ (e_ d_ T.kind)/\W'.cell? ⟨w,1,b_⟩=c_ (e_ d_ T.num)/\W'.cell? ⟨w,2,b_⟩=c_ (g_ T.name)/\W'.cell? ⟨w,3,b_⟩=c_ (a_ A T.args.length c)):=Z_ λW' h=>aX (h.trans G)
  have bb:=Z_ bg;have cd:x_ (∀W',n_ t t W'->W'.heap[w.heap.size+1]?=c_ (f_ #[e_ d_ 0,e_ d_ 0,g_ ⟨#[]⟩,a_ b_ 0 0] 61 (0,0))):=Z_ λW' h=>(h.block _ (ao D)).trans D
  unfold cn at a2 bB;have cf:=Z_ a2;have cg:=Z_ bB;have c7:=Z_ bx;have c8:x_ (cJ T=v_):=Z_ hr;have eg:x_ (n_ t t t.drew):=Z_ (JG t t).drew;have ch:=Z_ J;rw[bt]at cf ch cg;clear hr D G bn V U ak b3 J bf cb a2 bB bx hL bg hF cF hR;go_wp2_with fail;have ck:=Z_ (ba.o t.drew rfl);refine KE (S:=(λW':j_=>W'.cell? ⟨w,0,b_⟩=c_ (e_ d_ T.kind)/\W'.cell? ⟨w,1,b_⟩=c_ (e_ d_ T.num)/\W'.cell? ⟨w,2,b_⟩=c_ (g_ T.name)/\W'.cell? ⟨w,3,b_⟩=c_ (a_ A T.args.length c))) K_ ?_;refine fx 0 8 (JI #[e_ d_ T.kind,e_ d_ T.num,g_ T.name,a_ A T.args.length c]) ck.o ?_;refine fx 2 10 (JI #[e_ d_ T.kind,e_ d_ T.num,g_ T.name,a_ A T.args.length c]) ck.o ?_;refine ag 1 λK hK=>?_
  go_simp;have c9:=Z_ (ba.o (t.drew.alloc (f_ #[] 3)) (ch.o.block _ bb.o));refine kk hK c9.o ?_;refine ag 3 λK hK=>?_
  go_simp;refine cf.o.mono ?_;rintro e Z ⟨v4,rfl,cl,cm,ad⟩;have df:=Z_ (ba.o Z (ad.block _ bb.o));refine kk hK df.o ?_;refine ag 4 λK hK=>?_
  go_simp;refine(cg.o _ _ cl cm).mono ?_;rintro e w5 ⟨⟨A5,c5,rfl,cp,bN⟩,X⟩;have M:=X.trans (bN.mono X.size);have Y:=cd.o _ M;obtain⟨r0,r1,r2,r3⟩:=aX Y;obtain⟨s0,s1,s2,s3⟩:=aC Y;have dv:=Z_ (ba.o w5 (M.block _ bb.o));refine kk hK dv.o ?_;refine ag 5 λK hK=>?_
  go_simp;have cr:=Z_ (ba.o _ ((Bx (W:=w5) (r:=w.heap.size+1) (v0:=e_ d_ R.kind) (v1:=e_ d_ R.num) (v2:=g_ R.name) (v3:=a_ A5 R.args.length c5) (Nat.ne_of_lt (Nat.lt_succ_self _))).trans (M.block _ bb.o)));refine kk hK cr.o ?_;refine fx 6 3 (e_ d_ 0) cr.o ?_;refine J6 K_ ?_ _;obtain⟨Wf,av,a1,I⟩:=sx (e_ d_ R.kind) (e_ d_ R.num) (g_ R.name) (a_ A5 R.args.length c5) Y;have HE:x_ (P (k_ (J_ #[JI #[e_ d_ R.kind,e_ d_ R.num,g_ R.name,a_ A5 R.args.length c5],e_ d_ 0])) Wf):=Z_ (by
   rw[b0.o];have h5:=I.size;have h2:=cE.o;have h4:=X.size;have h6:=bN.size;exact⟨R,A5,c5,by rw[c8.o];rfl,cp.ae λg hg=>⟨by omega,I.block g hg.2 (by show¬g=_;omega)⟩,(b6.o.trans (M.mono O_)).trans (ja (p:=w.heap.size+1) I O_ O_),c7.o⟩)
  have bo:=Z_ a1;have bp:=Z_ av;clear a1 I av Y r0 r1 r2 r3 s0 s1 s2 s3 cp bN X M ad cl cm;go_wp2;rw[<-bp.o];obtain⟨f0,f1,f2,f3⟩:=aX bo.o;refine C_ (v:=J_ #[JI #[e_ d_ R.kind,e_ d_ R.num,g_ R.name,a_ A5 R.args.length c5],e_ d_ 0]) (by simp[results,Tryz.results160,go_sem,f0,f1,f2,f3]) rfl ?_;exact HE.o
end Go.Proofs.YtaalbcfpacpgfaaGreat
namespace Go.Typ
open Go.RowKit Go.Lib Go.Vfs Go.Par
def mF(m:Nat):List Int:=(List.range m).map λ(n:Nat)=>(n:Int)
theorem uM(m:Nat):(mF m).length=m:=by simp[mF]
theorem xb(m:Nat):mF (m+1)=mF m++[(m:Int)]:=by simp[mF,List.range_succ]
theorem uN{m:Nat}{n:Int}:n∈mF m↔0<=n/\n<m:=by
 unfold mF;rw[Lr];constructor
 ·rintro⟨k,t,rfl⟩;have:=Mq.1 t;omega
 rintro⟨h1,h2⟩;exact⟨n.toNat,Mq.2 O_,by omega⟩
theorem AB:∀{m:Nat} {n:Int},n∈mF m->((mF m).idxOf n:Int)=n
 |0,n,h=>by simp[mF]at h
 |m+1,n,h=>by
  rw[xb]at h⊢;by_cases h1:n∈mF m
  ·rw[mu h1];exact AB h1
  rcases KI.1 h with h2|h2
  ·exact absurd h2 h1
  rw[KV.1 h2]at h1⊢;rw[mw h1,uM]
theorem qD:∀(ts:List Ty),(∀t∈ts,∀m:Nat,((dS t m).1=v_->0<=(dS t m).2/\bY t (mF m)=(t,mF (dS t m).2.toNat))/\((dS t m).1=o_->(bY t (mF m)).1≠t))->∀m:Nat,
  ((gQ ts m).1=v_->0<=(gQ ts m).2/\bL ts (mF m)=(ts,mF (gQ ts m).2.toNat))/\((gQ ts m).1=o_->(bL ts (mF m)).1≠ts)
 |[],_,m=>by
  refine⟨λ_=>⟨by rw[gQ];exact Int.natCast_nonneg m,?_⟩,λh=>?_⟩
  ·rw[gQ,bL];simp
  rw[gQ]at h;cases h
 |t::ts,h,m=>by
  have D:=h t (by simp) m;rw[gQ,bL];cases G:(dS t m).1 with
  |false=>
   rw[I_ (by decide)];refine⟨(λh=>by cases h),λ_ e=>?_⟩;injection e with I _;exact D.2 G I
  |true=>
   rw[G_ rfl];obtain⟨h0,he⟩:=D.1 G;obtain⟨j,hj⟩:∃j:Nat,(dS t m).2=j:=⟨(dS t m).2.toNat,by omega⟩;rw[he,hj,Lh];have hr:=qD ts (λa J=>h a (by simp[J])) j;refine⟨λh1=>?_,λh1 e=>?_⟩
   ·obtain⟨h2,K⟩:=hr.1 h1
    refine⟨h2,?_⟩;rw[K]
   injection e with _ M;exact hr.2 h1 M
theorem yg(T:Ty):fR T->∀m:Nat,((dS T m).1=v_->0<=(dS T m).2/\bY T (mF m)=(T,mF (dS T m).2.toNat))/\((dS T m).1=o_->(bY T (mF m)).1≠T):=by
 induction T using Ty.ind with
 |h T X=>
  intro J m;rw[nz,fV];by_cases G:T.kind=1
  ·rw[G_ G,G_ G]
   rcases eu J.self with⟨_,h0,h1,h2,Y⟩|⟨h,_⟩|⟨h,_⟩|⟨h,_⟩
   ·have Z:T.args=[]:=JH Y
    have K:T.name=⟨#[]⟩:=by
     apply L7;apply Ll.mp;rw[<-KY];exact h2
    have U:T=.mk 1 T.num ⟨#[]⟩ []:=by
     obtain⟨k,n,s,ts⟩:=T;simp only[Ty.kind,Ty.num,Ty.name,Ty.args]at*;subst G Z K;rfl
    by_cases e:T.num=m
    ·rw[G_ e]
     have D:(m:Int)∉mF m:=λh=>by have:=uN.1 h;omega
     refine⟨λ_=>⟨by show(0:Int)<=m+1;omega,?_⟩,λh=>by cases h⟩;rw[e,od D,uM];have M:((m:Int)+1).toNat=m+1:=by omega
     rw[M,xb];refine Prod.ext ?_ ?_
     ·show Ty.mk 1 (m:Int) ⟨#[]⟩ []=T
      rw[U,e]
     show iH (mF m) (m:Int)=mF m++[(m:Int)];unfold iH;rw[I_ D]
    rw[I_ e];by_cases O:T.num<m
    ·have I:T.num∈mF m:=uN.2 ⟨h0,O⟩
     refine⟨λ_=>⟨by show(0:Int)<=m;omega,?_⟩,λh=>?_⟩
     ·rw[Lh]
      refine Prod.ext ?_ ?_
      ·show Ty.mk 1 (((mF m).idxOf T.num:Nat):Int) ⟨#[]⟩ []=T
       rw[AB I,<-U]
      show iH (mF m) T.num=mF m;unfold iH;rw[G_ I]
     rw[JR O]at h;cases h
    refine⟨λh=>?_,λ_ M=>?_⟩
    ·rw[JJ O]at h;cases h
    have D:T.num∉mF m:=λh=>by have:=uN.1 h;omega
    have V:Ty.mk 1 (((mF m).idxOf T.num:Nat):Int) ⟨#[]⟩ []=T:=M;rw[od D,uM]at V;have:=J7 Ty.num V;exact e this.symm
   ·omega
   ·omega
   omega
  rw[I_ G,I_ G];have hr:=qD T.args (λt ht=>by obtain⟨i,hi,rfl⟩:=J4 ht;exact X i hi (J.arg hi)) m;have h0:=vV J.self G;refine⟨λh=>?_,λh e=>?_⟩
  ·obtain⟨h1,h2⟩:=hr.1 h
   refine⟨h1,?_⟩;rw[h2];refine Prod.ext ?_ rfl;show Ty.mk T.kind 0 T.name T.args=T;rw[<-h0,<-T.eta]
  have:=J7 Ty.args e;exact hr.2 h this
end Go.Typ
namespace Go.Proofs.YtaalbcfpacpgfaaGreat
open Go.RowKit Go.Lib Go.Vfs Go.Par Go.Typ Go.Shelf
theorem vB(T:Ty)(h:cJ T=v_):dn T=same (mh T) T:=by
 have G:=(cU.1 h).2;have t:=yg T G 0;have I:mF 0=[]:=rfl;unfold dn mh;rw[G_ h,h,Lk];rw[I]at t;cases D:(dS T 0).1 with
 |true=>
  have h1:=(t.1 D).2;rw[h1];exact(lF rfl).symm
 |false=>exact(ga (t.2 D)).symm
theorem wQ(T:Ty)(v:m_)(w:j_)(hT:aG (·<w.heap.size) w v T)(hp:T.parts<=1099511627776)(hn:pY 1000000000 T):
  H_ h_ 149 #[v] w λe w'=>e=k_ (u_ (dn T))/\n_ w w w':=by
 obtain⟨A,c,rfl,-⟩:=hT.form;obtain⟨W1,I⟩:=N_ (w.alloc (f_ #[e_ d_ T.kind,e_ d_ T.num,g_ T.name,a_ A T.args.length c] 61));have hx:BX w w T A c W1:=by rw[I];exact BX.new B_ hT
 have HX:=Z_ hx;have Y:=Z_ (yM T _ W1 hx.ty hp hn);obtain⟨Z,y1,y2,y3⟩:=aX hx.box;rw[I]at Z y1 y2 y3;unfold cn at Y⊢;clear hT hx hp hn;go_enter Tryz.func149,Tryz.ntmps149;go_wp2_with fail;rw[<-I];clear I Z y1 y2 y3;refine Y.o.mono ?_;rintro e w2 ⟨R,A2,c2,rfl,M,O,hR⟩;have J:=HX.o.t O;obtain⟨W2,D⟩:=N_ (w2.alloc (f_ #[e_ d_ R.kind,e_ d_ R.num,g_ R.name,a_ A2 R.args.length c2] 61));have U:n_ w2 w2 W2:=by rw[D];exact B_.alloc L_ _
 have G:=J.t U;have K:BX w w2 R A2 c2 W2:=by rw[D];exact BX.new J.below (aG.sub M λg hg=>hg.2)
 have V:=Z_ G.below;cases hr:cJ T with
 |false=>
  have HE:x_ (dn T=o_):=Z_ (by unfold dn;rw[hr];rfl);rw[I_ (by decide)];clear hr M O hR J U G K;unfold cn;go_wp2;go_ret;rw[HE.o,<-D];exact⟨rfl,V.o⟩
 |true=>
  have HE:x_ (dn T=same R T):=Z_ (by rw[hR];exact vB T hr);rw[G_ rfl];have X:=nD R T _ _ W2 K.ty G.ty;obtain⟨Z,y1,y2,y3⟩:=aX G.box;obtain⟨z0,z1,z2,z3⟩:=aX K.box;rw[D]at Z y1 y2 y3 z0 z1 z2 z3;unfold cn at X⊢;have ak:=Z_ X;clear hr M O hR J U G K X;go_wp2_with fail;rw[<-D];clear D Z y1 y2 y3 z0 z1 z2 z3;refine ak.o.mono ?_;rintro e w4 ⟨rfl,ad⟩;have av:=Z_ (V.o.trans (ad.mono V.o.size));clear ad;go_wp2;go_ret;rw[HE.o];exact⟨rfl,av.o⟩
theorem uH(T:Ty):∀(v:m_) (w:j_),aG (·<w.heap.size) w v T->H_ h_ 150 #[v] w λe w'=>e=k_ (u_ (bG T))/\n_ w w w':=by
 induction T using Ty.ind with
 |h T ih=>
  intro v w hT;have IH:=Z_ ih;clear ih;obtain⟨A,c,rfl,hc,hm,hn⟩:=hT.form;have bb:T.args.length<=9223372036854775807:=by simp only[JT]at hm;omega
  obtain⟨Y,t⟩:=N_ (w.alloc (f_ #[e_ d_ T.kind,e_ d_ T.num,g_ T.name,a_ A T.args.length c] 61));have M:n_ w w Y:=by rw[t];exact B_.alloc L_ _
  have O:Y.heap[w.heap.size]?=c_ (f_ #[e_ d_ T.kind,e_ d_ T.num,g_ T.name,a_ A T.args.length c] 61 (0,0)):=by rw[t];exact r_ _ _
  have ad:=Z_ (hT.fl M);have I:=Z_ M;have ak:=Z_ O;have av:x_ (Y.heap.size=w.heap.size+1):=Z_ (by rw[t];simp);obtain⟨Z,y1,y2,y3⟩:=aX O;rw[t]at Z y1 y2 y3;have bd:T.name.size<=9223372036854775807:=hn;obtain⟨r,hr⟩:=N_ ((decide (T.name.size<=255)&&decide (T.args.length<=255)));have a1:x_ (bG T=(r&&dT T.args)):=Z_ (by rw[gg,hr,Bool.and_assoc]);have HR:=Z_ hr;clear hT O M hc hm hn hr;unfold cn;go_enter Tryz.func150,Tryz.ntmps150;go_upto_region 1 with fail;rw[<-t];rw[<-t]at Z y1 y2 y3;clear t
  go_cut [3] (λv W=>v=u_ r/\W=Y)
  case first=>
   by_cases h1:T.name.size<=255
   ·have g1:(T.name.size:Int)<=255:=by omega
    by_cases h2:T.args.length<=255
    ·have g2:(T.args.length:Int)<=255:=by omega
     have D:x_ (r=v_):=Z_ (by rw[HR.o,JR h1,JR h2];rfl);clear h1 h2;go_wp2_with fail;go_meet;exact⟨by rw[D.o],rfl⟩
    have g2:¬(T.args.length:Int)<=255:=by omega
    have D:x_ (r=o_):=Z_ (by rw[HR.o,JJ h2,LA]);clear h1 h2;go_wp2_with fail;go_meet;exact⟨by rw[D.o],rfl⟩
   have g1:¬(T.name.size:Int)<=255:=by omega
   have D:x_ (r=o_):=Z_ (by rw[HR.o,JJ h1,KC]);clear h1;go_wp2_with fail;go_meet;exact⟨by rw[D.o],rfl⟩
  obtain⟨rfl,rfl⟩:=hcut;clear Z y1 y2 y3 HR;go_wp2_with fail
  go_loopw [3,4] (λov iv W=>∃(k:Nat) (ok:Bool),k<=T.args.length/\ov=u_ ok/\iv=e_ d_ k/\x_ (bG T=(ok&&dT (T.args.drop k)))/\x_ (n_ wc wc W)) (λ_ iv _=>T.args.length - (A_ iv).toNat)
  case atStart=>exact⟨0,r,by omega,rfl,rfl,a1,Z_ B_⟩
  obtain⟨k,ok,hk,rfl,rfl,HW,X⟩:=hrel;have K:wr.heap[w.heap.size]?=c_ (f_ #[e_ d_ T.kind,e_ d_ T.num,g_ T.name,a_ A T.args.length c] 61 (0,0)):=by
   rw[X.o.block _ (by have:=av.o;omega)];exact ak.o
  obtain⟨Z,y1,y2,y3⟩:=aX K;by_cases V:k<T.args.length
  ·cases ok with
   |true=>
    obtain⟨b,off,A',c',rfl,hb,ht,x0,x1,x2,x3⟩:=(ad.o.fl X.o).arg V;have J:=IH.o k V _ wr ht;have HS:x_ (bG T=(bG T.args[k]&&dT (T.args.drop (k+1)))):=Z_ (by rw[HW.o,pI V,Lk]);clear ht K;generalize T.args[k]=U at*;obtain⟨q,hq⟩:=N_ (bG U);rw[<-hq]at J HS;unfold cn at J;have a2:=Z_ J;clear J hq;go_wp2_with (go_at_call 150;refine a2.o.mono ?_;rintro e w2 ⟨rfl,ba⟩);go_roundw
    case rel=>exact⟨k+1,q,by omega,rfl,by go_num,HS,Z_ (X.o.trans (ba.mono X.o.size))⟩
    simp[A_];omega
   |false=>
    have G:x_ (bG T=o_):=Z_ (by rw[HW.o,KC]);go_wp2;go_ret;exact⟨by rw[G.o];rfl,I.o.trans (X.o.mono I.o.size)⟩
  have G:x_ (bG T=ok):=Z_ (by rw[HW.o,L6 O_,dT,Bool.and_true]);go_wp2;go_ret;exact⟨by rw[G.o];rfl,I.o.trans (X.o.mono I.o.size)⟩
