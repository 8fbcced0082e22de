import Derived.Laws.BitsAllLaws
import Derived.Deep.QuietTactic
import Derived.BigQuiet
import Derived.Lib.AppendZeros
import Derived.OrdersHeld
import Derived.RangeFuncNested
import Derived.RangeFuncBound
import Derived.RangeFuncCalls
import Derived.RangeFuncLeaves
import Derived.RangeFuncFrom
import Derived.Shelf.Abstract
import Derived.OwnWalkIn
import Derived.TacticsInMore
import Derived.LoopNIn
import Derived.LoopIn
import Derived.Deep.RegionHeld3
import Derived.RangeFuncWrites
import Derived.Maps.OwnIn
import Derived.Test.YtaalbcfpacpgfaaGreatZdM3
set_option linter.all false
set_option maxHeartbeats 16000000
set_option maxRecDepth 100000
open Bool renaming false->o_
open Go renaming Addr->Kb,Calls->H_,TypeId->Ki,Value->m_,World->j_,grownCap->Lv,maxLen->JT,undef->q_
open Go.Builtin renaming zeroCells->Mi
open Go.Ending renaming returned->k_
open Go.Fence renaming wide->JK
open Go.Instr renaming slice->KO
open Go.IntKind renaming i64->d_,u32->KW,u8->KD
open Go.Lib renaming byteCells->l_
open Go.Obj renaming cells->f_
open Go.Program renaming elem->K7
open Go.Proofs.Tryz renaming prog->h_
open Go.Result renaming andThen->LK
open Go.RowKit renaming Below->n_,Hid->x_
open Go.Value renaming bool->u_,int->e_,pointer->i_,slice->a_
open Go.World renaming cell?->E_,frozen?->JW,setCell->Kd
open Option renaming none->b_,some->c_
open Or renaming inl->Ke
namespace Go.Par
def yd(v:Nat):Nat:=if v%2=1 then(v/2)^^^3988292384 else v/2
def gU:Nat->Nat->Nat
 |0,v=>v
 |j+1,v=>yd (gU j v)
def zJ(v:Nat)(b:UInt8):Nat:=gU 8 (v^^^b.toNat)
def ib(v:Nat)(l:List UInt8):Nat:=l.foldl zJ v
def mQ(l:List UInt8):Nat:=4294967295 - ib 4294967295 l
variable{v:Nat}
theorem nO{a b:Nat}(j:a<4294967296)(t:b<4294967296):a^^^b<4294967296:=Nat.xor_lt_two_pow (n:=32) j t
theorem EM(h:v<4294967296):yd v<4294967296:=by
 unfold yd;split
 ·exact nO O_ O_
 omega
theorem mI(h:v<4294967296):∀j,gU j v<4294967296
 |0=>h
 |j+1=>EM (mI h j)
theorem CZ(h:v<4294967296)(b:UInt8):zJ v b<4294967296:=mI (nO h (by have:=b.toNat_lt;omega)) 8
theorem uQ(h:v<4294967296)(l:List UInt8):ib v l<4294967296:=by
 induction l generalizing v with
 |nil=>exact h
 |cons b l j=>exact j (CZ h b)
theorem xe(v:Nat)(a b:List UInt8):ib v (a++b)=ib (ib v a) b:=by simp[ib]
theorem Cb(v:Nat)(l:List UInt8)(b:UInt8):ib v (l++[b])=zJ (ib v l) b:=by simp[ib]
theorem qL(l:List UInt8):mQ l<4294967296:=by unfold mQ;omega
end Go.Par
namespace Go.Proofs.YtaalbcfpacpgfaaGreat
open Go.RowKit Go.Lib Go.Vfs Go.Par
theorem sQ{V j:Nat}(h:gU j V%2=1):gU (j+1) V=(gU j V/2)^^^3988292384:=by show yd _=_;unfold yd;rw[G_ h]
theorem qy{V j:Nat}(h:¬gU j V%2=1):gU (j+1) V=gU j V/2:=by show yd _=_;unfold yd;rw[I_ h]
theorem DH(V:Nat)(h:V<4294967296):4294967295^^^V=4294967295 - V:=by
 have h1:=BitVec.toNat_not (x:=BitVec.ofNat 32 V);rw[<-BitVec.allOnes_xor,BitVec.toNat_xor]at h1;have h2:(BitVec.ofNat 32 V).toNat=V:=by rw[BitVec.toNat_ofNat];exact Nat.mod_eq_of_lt h
 have j:(BitVec.allOnes 32).toNat=4294967295:=by decide
 rw[h2,j]at h1;simpa using h1
theorem Er(V:Nat)(h:V<4294967296):bits .xor KW KW.max (V:Int)=4294967295 - (V:Int):=by
 rw[show KW.max=((4294967295:Nat):Int) by decide,u32_xor_nat _ _ O_ h,DH V h];omega
theorem tI(l:List UInt8)(k x:Nat)(j:k<l.length)(hx:(l.getD k 0).toNat=x)(v:Nat):ib v (l.take (k+1))=gU 8 (ib v (l.take k)^^^x):=by
 rw[y_ j,Cb];unfold zJ;rw[show l[k].toNat=x by rw[<-hx,s_,w_ j];rfl]
theorem D5(v:m_)(l:List UInt8)(B:Nat)(w:j_)(J:bw w B v (l_ l)):
  H_ h_ 144 #[v] w λe w'=>e=k_ (e_ KW (mQ l:Nat))/\∃n,w'=w.drewN n:=by
 obtain⟨A,c,rfl,hc,hm,M⟩:=J.bq;have av:=Z_ M;clear M J;go_enter Tryz.func144,Tryz.ntmps144;go_wp2
 go_loopw [3,4] (λs i wr=>∃k n:Nat,k<=l.length/\i=e_ d_ k/\s=e_ KW (ib 4294967295 (l.take k):Nat)/\wr=w.drewN n) (λ_ i _=>l.length - (intOf i).toNat)
 case atStart=>exact⟨0,0,by omega,rfl,rfl,rfl⟩
 obtain⟨k,n,hk,rfl,rfl,rfl⟩:=hrel;have t:=uQ (v:=4294967295) O_ (l.take k);obtain⟨V,I⟩:=N_ (ib 4294967295 (l.take k));rw[<-I]at t;rw[<-I];by_cases O:k<l.length
 ·obtain⟨b,off,x,rfl,hb,hcell,hx,Hx⟩:=av.o.byte O
  have a1:bits .xor KW (V:Int) (x:Int)=((V^^^x:Nat):Int):=u32_xor_nat V x t O_;have a2:V^^^x<4294967296:=nO t O_;have HN:x_ (ib 4294967295 (l.take (k+1))=gU 8 (V^^^x)):=Z_ (by rw[I];exact tI l k x O Hx.o _);clear I;go_wp2;clear a1 hcell;generalize V^^^x=X at*;obtain⟨wo,D⟩:∃wo:j_,wo=w.drewN n:=⟨_,rfl⟩;rw[<-D];have ba:=Z_ D;clear D
  go_loopw [3,5] (λs i wr=>∃j:Nat,j<=8/\i=e_ d_ j/\s=e_ KW (gU j X:Nat)/\wr=wo) (λ_ i _=>8 - (intOf i).toNat)
  case atStart=>exact⟨0,by omega,rfl,rfl,rfl⟩
  obtain⟨j,hj,rfl,rfl,rfl⟩:=hrel;have bb:=mI a2 j;by_cases bd:j<8
  ·have HO:=Z_ (@sQ X j);have HE:=Z_ (@qy X j)
   generalize gU j X=Y at*;have U:Y/2<4294967296:=by omega
   have bf:bits .xor KW ((Y:Int)/2) 3988292384=(((Y/2)^^^3988292384:Nat):Int):=by rw[show(Y:Int)/2=((Y/2:Nat):Int) by omega];exact u32_xor_nat (Y/2) 3988292384 U O_
   by_cases Z:Y%2=1
   ·go_wp2
    go_roundw
    case rel=>
     refine⟨j+1,by omega,by go_num,?_,by first|rfl|trivial⟩;rw[HO.o Z];try rfl
    simp[intOf];omega
   go_wp2;go_roundw
   case rel=>
    refine⟨j+1,by omega,by go_num,?_,by first|rfl|trivial⟩;rw[HE.o Z];try rfl
   simp[intOf];omega
  have ad:j=8:=by omega
  subst ad;go_wp2;go_roundw
  case rel=>exact⟨k+1,n,by omega,by go_num,by rw[HN.o],ba.o⟩
  simp[intOf];omega
 have ak:k=l.length:=by omega
 have HC:x_ (mQ l=4294967295 - V):=Z_ (by rw[I,ak,JO];rfl);clear I ak;go_wp2;go_ret;refine⟨?_,n,rfl⟩;rw[HC.o,show((4294967295 - V:Nat):Int)=4294967295 - (V:Int) by omega];rfl
theorem Ca(v:Nat)(ls:List (List UInt8))(k:Nat)(j:k<ls.length):ib v (ls.take (k+1)).flatten=ib (ib v (ls.take k).flatten) (ls.getD k []):=by
 rw[fW ls k j,xe]
theorem AS(v:m_)(ls:List (List UInt8))(w:j_)(h:al (·<w.heap.size) w v ls):
  H_ h_ 89 #[v] w λe w'=>e=k_ (e_ KW (mQ ls.flatten:Nat))/\∃n,w'=w.drewN n:=by
 obtain⟨vs,ak,⟨A,c,rfl,b1,av,a1⟩,a2⟩:=h;have bR:c<=9223372036854775807:=by simpa[JT]using av
 have bm:=Z_ a1;have bn:=Z_ a2;have J:=Z_ ak;clear a1 a2 ak av;go_enter Tryz.func89,Tryz.ntmps89;go_wp2
 go_loopw [3,10] (λs i wr=>∃k n:Nat,k<=vs.length/\i=e_ d_ k/\s=e_ KW (ib 4294967295 (ls.take k).flatten:Nat)/\wr=w.drewN n) (λ_ i _=>vs.length - (intOf i).toNat)
 case atStart=>exact⟨0,0,by omega,rfl,rfl,rfl⟩
 obtain⟨k,n,hk,rfl,rfl,rfl⟩:=hrel;have M:=uQ (v:=4294967295) O_ (ls.take k).flatten;by_cases t:k<vs.length
 ·obtain⟨b,off,rfl,hb,hcell⟩:=bm.o O_
  replace hcell:=hcell k t;have O:=bn.o k (by rw[<-J.o];exact t);have bo:=Z_ (Ca 4294967295 ls k (by rw[<-J.o];exact t));rw[w_ t]at hcell;rw[show vs.getD k (u_ o_)=vs[k] by simp[s_,t]]at O;generalize vs[k]=u at*;generalize ls.getD k []=l at*;generalize ib 4294967295 (ls.take k).flatten=U at*;have I:bw w w u (l_ l):=O;obtain⟨A2,c2,rfl,b3,b5,ba⟩:=I.bq;have bp:=Z_ ba;clear ba O I;go_wp2;clear hcell
  go_loopw [3,16] (λs i wr=>∃m p:Nat,m<=l.length/\i=e_ d_ m/\s=e_ KW (ib U (l.take m):Nat)/\wr=w.drewN p) (λ_ i _=>l.length - (intOf i).toNat)
  case atStart=>exact⟨0,n,by omega,rfl,rfl,rfl⟩
  obtain⟨m,q,b6,rfl,rfl,rfl⟩:=hrel;have Z:=uQ M (l.take m);obtain⟨V,D⟩:=N_ (ib U (l.take m));rw[<-D]at Z;rw[<-D];by_cases bb:m<l.length
  ·obtain⟨b2,b0,x,rfl,cb,hcell,hx,Hx⟩:=bp.o.byte bb
   have bt:bits .xor KW (V:Int) (x:Int)=((V^^^x:Nat):Int):=u32_xor_nat V x Z O_;have bx:V^^^x<4294967296:=nO Z O_;have HN:x_ (ib U (l.take (m+1))=gU 8 (V^^^x)):=Z_ (by rw[D];exact tI l m x bb Hx.o _);clear D;go_wp2;clear bt hcell;generalize V^^^x=X at*;obtain⟨wo,ad⟩:∃wo:j_,wo=w.drewN q:=⟨_,rfl⟩;rw[<-ad];have bB:=Z_ ad;clear ad
   go_loopw [3,24] (λs i wr=>∃j:Nat,j<=8/\i=e_ d_ j/\s=e_ KW (gU j X:Nat)/\wr=wo) (λ_ i _=>8 - (intOf i).toNat)
   case atStart=>exact⟨0,by omega,rfl,rfl,rfl⟩
   obtain⟨j,hj,rfl,rfl,rfl⟩:=hrel;have bN:=mI bx j;by_cases cc:j<8
   ·have HO:=Z_ (@sQ X j);have HE:=Z_ (@qy X j)
    generalize gU j X=Y at*;have bd:Y/2<4294967296:=by omega
    have cd:bits .xor KW ((Y:Int)/2) 3988292384=(((Y/2)^^^3988292384:Nat):Int):=by rw[show(Y:Int)/2=((Y/2:Nat):Int) by omega];exact u32_xor_nat (Y/2) 3988292384 bd O_
    have cf:bits .and KW (Y:Int) 1=((Y%2:Nat):Int):=by rw[<-nat_mask1];exact u32_and_nat Y 1 bN O_
    by_cases bf:Y%2=1
    ·go_wp2
     go_roundw
     case rel=>
      refine⟨j+1,by omega,by go_num,?_,by first|rfl|trivial⟩;rw[HO.o bf];try rfl
     simp[intOf];omega
    go_wp2;go_roundw
    case rel=>
     refine⟨j+1,by omega,by go_num,?_,by first|rfl|trivial⟩;rw[HE.o bf];try rfl
    simp[intOf];omega
   have bg:j=8:=by omega
   subst bg;go_wp2;go_roundw
   case rel=>exact⟨m+1,q,by omega,by go_num,by rw[HN.o],bB.o⟩
   simp[intOf];omega
  have bj:m=l.length:=by omega
  have bO:x_ (ib U l=V):=Z_ (by rw[D,bj,JO]);clear D;go_wp2;go_roundw
  case rel=>exact⟨k+1,q,by omega,by go_num,by rw[bo.o,bO.o],rfl⟩
  simp[intOf];omega
 have bk:k=vs.length:=by omega
 obtain⟨V,D⟩:=N_ (ib 4294967295 (ls.take k).flatten);rw[<-D]at M;rw[<-D];have HC:x_ (mQ ls.flatten=4294967295 - V):=Z_ (by rw[D,bk,J.o,JO];rfl);clear D bk;have cg:=Er V M;go_wp2;go_ret;refine⟨?_,n,rfl⟩;rw[HC.o,show((4294967295 - V:Nat):Int)=4294967295 - (V:Int) by omega];try rfl
end Go.Proofs.YtaalbcfpacpgfaaGreat
namespace Go.Par
def cy(n:Nat):List UInt8:=[(n/16777216%256).toUInt8,(n/65536%256).toUInt8,(n/256%256).toUInt8,(n%256).toUInt8]
theorem ep(n:Nat):(cy n).length=4:=rfl
def cj(l:List UInt8):Nat:=(l.getD 0 0).toNat*16777216+(l.getD 1 0).toNat*65536+(l.getD 2 0).toNat*256+(l.getD 3 0).toNat
theorem fH(l:List UInt8):cj l<4294967296:=by
 unfold cj;have h0:=(l.getD 0 0).toNat_lt;have h1:=(l.getD 1 0).toNat_lt;have h2:=(l.getD 2 0).toNat_lt;have j:=(l.getD 3 0).toNat_lt;omega
theorem oG(n:Nat):((n%256).toUInt8).toNat=n%256:=by simp[Nat.toUInt8,K8]
theorem iB(n:Nat)(h:n<4294967296)(r:List UInt8):cj (cy n++r)=n:=by
 unfold cj cy;simp;omega
end Go.Par
namespace Go.Proofs.YtaalbcfpacpgfaaGreat
open Go.RowKit Go.Lib Go.Vfs Go.Par
variable{w:j_}{v:m_}{ls:List (List UInt8)}{k d B c:Nat}{A:Option Kb}{l:List UInt8}
theorem jX(n:Nat)(hn:n<4294967296)(w:j_):
  H_ h_ 88 #[e_ KW (n:Nat)] w λe w'=>∃A c,e=k_ (a_ A 4 c)/\Par.Own w' w 5 (a_ A 4 c) (l_ (cy n))/\n_ w w w':=by
 go_enter Tryz.func88,Tryz.ntmps88;go_wp2;go_ret;have j:l_ (cy n)=[e_ KD ((n:Int)/16777216),e_ KD ((n:Int)/65536%256),e_ KD ((n:Int)/256%256),e_ KD ((n:Int)%256)]:=by
  unfold l_ cy;simp only[Ks,Lf,oG];rw[show n/16777216%256=n/16777216 by omega];rfl
 refine⟨c_ ⟨w,0,b_⟩,4,rfl,?_,ah w _⟩;rw[j];exact Par.Own.new w w 5 _ _ rfl L_ (by simp[JT])
theorem rE(i x y:Nat)(hi:i<32)(hx:x%2^i=0)(j:y<2^i)(t:x<4294967296):bits .or KW (x:Int) (y:Int)=((x+y:Nat):Int):=by
 have D:(2:Nat)^i<=2^32:=LO O_ O_;rw[u32_or_nat x y t O_,nat_join i x y hx j]
theorem Ju(j t D I:Nat)(h0:j<256)(h1:t<256)(h2:D<256)(J:I<256):
  bits .or KW (bits .or KW (bits .or KW ((j:Int)*16777216) ((t:Int)*65536)) ((D:Int)*256)) (I:Int)=((j*16777216+t*65536+D*256+I:Nat):Int):=by
 rw[show(j:Int)*16777216=((j*16777216:Nat):Int) by omega,show(t:Int)*65536=((t*65536:Nat):Int) by omega,show(D:Int)*256=((D*256:Nat):Int) by omega];rw[rE 24 _ _ O_ O_ O_ O_,rE 16 _ _ O_ O_ O_ O_,rE 8 _ _ O_ O_ O_ O_]
theorem tL(v:m_)(l:List UInt8)(B:Nat)(w:j_)(t:bw w B v (l_ l))(hl:4<=l.length):
  H_ h_ 83 #[v] w λe w'=>e=k_ (e_ KW (cj l:Nat))/\∃n,w'=w.drewN n:=by
 obtain⟨A,c,rfl,hc,hm,j⟩:=t.bq;obtain⟨b,off,x0,rfl,hb,D,I,J⟩:=j.byte (show 0<l.length by omega);obtain⟨_,_,x1,h1,-,ad,M,O⟩:=j.byte (show 1<l.length by omega);cases h1;obtain⟨_,_,x2,h2,-,ak,U,V⟩:=j.byte (show 2<l.length by omega);cases h2;obtain⟨_,_,x3,h3,-,av,Y,Z⟩:=j.byte (show 3<l.length by omega);cases h3;clear j t;have g0:0<l.length:=by omega
 have g1:1<l.length:=by omega
 have g2:2<l.length:=by omega
 have g3:3<l.length:=by omega
 simp only[L5]at D;go_enter Tryz.func83,Tryz.ntmps83;go_wp2
 go_quiet (fail)
 go_wp2;go_ret;refine⟨?_,nq,rfl⟩;have e:cj l=x0*16777216+x1*65536+x2*256+x3:=by unfold cj;rw[J.o,O.o,V.o,Z.o]
 rw[e,<-Ju x0 x1 x2 x3 I M U Y];rfl
def aw(gen:Nat)(p:List UInt8):List UInt8:=cy gen++cy p.length++cy (mQ (cy gen++cy p.length++p))++p
theorem bc(gen:Nat)(p:List UInt8):(aw gen p).length=12+p.length:=by unfold aw;simp[ep];omega
theorem Dl(n:Nat)(hn:n<=2147483648)(w:j_):
  H_ h_ 124 #[a_ b_ 0 0,e_ d_ (n:Nat)] w λe w'=>∃A c,e=k_ (a_ A 0 c)/\Par.Own w' w 5 (a_ A 0 c) []/\n_ w w w':=by
 by_cases h0:n=0
 ·subst h0
  go_enter Tryz.func124,Tryz.ntmps124;go_wp2;go_ret;exact⟨b_,0,rfl,Par.Own.nil _ _ _,JG _ _⟩
 obtain⟨i,bytes,hi,U,I,J,V⟩:=fD.info;have hr:=Lib.run_append_nil_zeros (P:=h_) w 24 3 24 5 i (e_ KD 0) d_ d_ J9 Lq hi U n O_ O_ O_ (Kj (Nat.mul_le_mul hn (by omega:i.bytes<=64)) (by decide));have M:=grownCap_ge w n 0 5;have hle:=grownCap_le_maxLen w n 0 5 (by unfold JT;omega);have hp:(0:Int)<(n:Int):=by omega
 have j:=λw'=>gJ b_ 0 0 0 w' L_
 have t:(Mi (e_ KD 0).cells n++Mi (e_ KD 0).cells (Lv w n 0 5 - n)).size=Lv w n 0 5:=by
  have O:(e_ KD 0).cells.size=1:=rfl;simp only[Array.size_append,size_zeroCells,O];omega
 have Y:x_ (∀A c,A=c_ ⟨w,0,b_⟩->c=Lv w n 0 5->Par.Own (w.drew.alloc (f_ (Mi (e_ KD 0).cells n++Mi (e_ KD 0).cells (Lv w n 0 5 - n)) 5)) w 5 (a_ A 0 c) []):=Z_ (by
  rintro A c rfl rfl;exact⟨rfl,.inr ⟨w,_,_,rfl,Kh _,r_ w.drew _,Km _,hle,by rw[t];omega,by simp⟩⟩)
 generalize Z:Mi (e_ KD 0).cells n++Mi (e_ KD 0).cells (Lv w n 0 5 - n)=X at*;generalize hG:Lv w n 0 5=G at*;have D:=λw'=>gJ (c_ ⟨w,0,b_⟩) n G 0 w' (Km _)
 simp only[Int.natCast_zero]at j D;clear Z hG t M hle h0 hi U I J;go_enter Tryz.func124,Tryz.ntmps124;go_wp2_with (at_builtin;refine Lib.wpList_append_run _ rfl _ _ _ _ rfl _ _ rfl rfl _ _ hr ?_);clear hr;go_wp2;go_ret;exact⟨_,_,rfl,Y.o _ _ rfl rfl,((JG _ w).drew).alloc L_ _⟩
theorem um(ls:List (List UInt8))(k:Nat):((ls.take k).flatten).length<=ls.flatten.length:=by
 have:=J7 List.length (J7 List.flatten (KJ k ls));rw[List.flatten_append,p_]at this;omega
theorem al.open_(h:al (·<w.heap.size) w v ls):∃A c,v=a_ A ls.length c/\ls.length<=c/\c<=9223372036854775807/\
  x_ (∀(W:j_),n_ w w W->∀k,k<ls.length->∃b off D I,A=c_ ⟨b,off,b_⟩/\b<w.heap.size/\W.cell? ⟨b,off+k,b_⟩=c_ (a_ D (ls.getD k []).length I)/\bw W w (a_ D (ls.getD k []).length I) (l_ (ls.getD k []))):=by
 obtain⟨vs,J,⟨A,c,rfl,Z,M,O⟩,U⟩:=h;refine⟨A,c,by rw[J],by omega,by simpa[JT]using M,Z_ λW V k hk=>?_⟩;obtain⟨b,off,rfl,j,hcell⟩:=O O_;have t:bw W w (vs.getD k (u_ o_)) (l_ (ls.getD k [])):=bw.below (B:=w.heap.size) (U k hk) V;obtain⟨D,I,Y,-⟩:=t.bq;refine⟨b,off,D,I,rfl,j,?_,by rw[<-Y];exact t⟩;rw[V.cell (p:=⟨b,off+k,b_⟩) j,hcell k O_,<-Y,s_,w_ O_];rfl
theorem yi(v:m_)(ls:List (List UInt8))(w:j_)(h:al (·<w.heap.size) w v ls)(hl:ls.flatten.length<=1000000):
  H_ h_ 90 #[v] w λe w'=>∃A c,e=k_ (a_ A ls.flatten.length c)/\Par.Own w' w 5 (a_ A ls.flatten.length c) (l_ ls.flatten)/\n_ w w w':=by
 obtain⟨A,c,rfl,hc,hm,HR⟩:=h.open_;clear h;go_enter Tryz.func90,Tryz.ntmps90;go_wp2
 go_loopw [3,11] (λs i wr=>∃k:Nat,k<=ls.length/\i=e_ d_ k/\s=e_ d_ (((ls.take k).flatten).length:Nat)/\wr=w) (λ_ i _=>ls.length - (intOf i).toNat)
 case atStart=>exact⟨0,by omega,rfl,rfl,rfl⟩
 obtain⟨k,hk,rfl,rfl,rfl⟩:=hrel;by_cases J:k<ls.length
 ·obtain⟨b,off,Ak,ck,rfl,hb,hcell,-⟩:=HR.o wr B_ k J
  have HF:=Z_ (fW ls k J);have hle:=mW ls k J;generalize(ls.take k).flatten=D at*;generalize ls.getD k []=L at*;have bg:¬(D.length:Int)+(L.length:Int)<0:=by omega
  go_wp2;go_roundw
  case rel=>exact⟨k+1,by omega,by go_num,by rw[HF.o,p_];go_num,by first|rfl|trivial⟩
  simp[intOf];omega
 have U:k=ls.length:=by omega
 have HN:x_ ((ls.take k).flatten.length=ls.flatten.length):=Z_ (by rw[U,JO]);rw[HN.o];clear U;obtain⟨M,rfl⟩:∃M:j_,M=wr:=⟨_,rfl⟩;generalize V:ls.flatten.length=N at*;have a1:=Z_ V;clear V;go_wp2_with fail;refine(Dl N O_ M).mono ?_;rintro e w1 ⟨A1,c1,rfl,Y,Z⟩;have a2:=Z_ Y;have ba:=Z_ Z;clear Y Z HN;go_wp2
 go_loopw [6,27] (λs i wx=>∃k:Nat,k<=ls.length/\i=e_ d_ k/\x_ (Par.Own wx M 5 s (l_ (ls.take k).flatten))/\x_ (n_ M M wx)) (λ_ i _=>ls.length - (intOf i).toNat)
 case atStart=>exact⟨0,by omega,rfl,a2,ba⟩
 obtain⟨m,bj,rfl,HU,HB⟩:=hrel;by_cases O:m<ls.length
 ·obtain⟨b,off,Ak,ck,rfl,hb,hcell,I⟩:=HR.o _ HB.o m O
  have HF:=Z_ (fW ls m O);have hle:=mW ls m O;generalize(ls.take m).flatten=D at*;generalize ls.getD m []=L at*;have t:=HU.o;have hz:=HB.o.size;obtain⟨As,cs,hf⟩:=t.form;rw[t_]at hf;subst hf;go_wp2_with (at_builtin;refine aE _ rfl _ _ _ rfl M 5 _ fD _ _ rfl t _ _ _ rfl I (aZ _) ?c1 ?c2 ?_)
  case c1=>rw[t_,t_];have:=a1.o;omega
  case c2=>exact hz
  intro v3 w3 j ad ak;have bb:=Z_ (dW HB.o t ad hz);rw[<-byteCells_append,<-HF.o]at j;have bd:=Z_ j;clear j ad ak t I hcell HU;go_wp2;go_roundw
  case rel=>exact⟨m+1,by omega,by go_num,bd,bb⟩
  simp[intOf];omega
 have av:m=ls.length:=by omega
 have hU:=HU.o;rw[av,JO]at hU;obtain⟨As,cs,hf⟩:=hU.form;rw[t_]at hf;have bf:=Z_ hU;clear hU HU av;subst hf;go_wp2;go_ret;exact⟨_,_,rfl,bf.o,HB.o⟩
theorem al.fresh(w:j_)(us:List m_)(cs:Array m_)(j:cs=us.toArray)(ls:List (List UInt8))(t:us.length=ls.length)(hs:∀i,i<ls.length->bw w w (us.getD i (u_ o_)) (l_ (ls.getD i [])))(hm:us.length<=1000):
  al (·<(w.alloc (f_ cs 24)).heap.size) (w.alloc (f_ cs 24)) (a_ (c_ ⟨w,0,b_⟩) ls.length ls.length) ls:=by
 have D:=ah w (f_ cs 24);refine⟨us,t,?_,λi hi=>?_⟩
 ·have:=bw.new w 24 cs us j (by unfold JT;omega)
  rw[t]at this;rw[JQ];exact this
 have:=((hs i hi).below D).more D.size;exact this
theorem mr(gen:Nat)(hg:gen<4294967296)(v:m_)(p:List UInt8)(w:j_)(h:bw w w v (l_ p))(hp:p.length<=900000):
  H_ h_ 47 #[e_ KW (gen:Nat),v] w λe w'=>∃A c,e=k_ (a_ A (aw gen p).length c)/\Par.Own w' w 5 (a_ A (aw gen p).length c) (l_ (aw gen p))/\n_ w w w':=by
 obtain⟨A,c,rfl,hc,hm,-⟩:=h.bq;have H:=Z_ h;clear h;go_enter Tryz.func47,Tryz.ntmps47;go_wp2_with fail;refine(jX p.length O_ w).mono ?_;rintro e w1 ⟨V,c1,rfl,Y,Z⟩;have S1:=Z_ (Own.dH Y);have B1:=Z_ Z;clear Y Z;go_wp2_with fail;refine(jX gen hg w1).mono ?_;rintro e w2 ⟨A2,c2,rfl,ad,t⟩;have S2:=Z_ (Own.dH ad);have B2:=Z_ t;have I:=Z_ ((S1.o.below t).more t.size);have D:=Z_ (B1.o.trans (t.mono B1.o.size));have P2:=Z_ ((H.o.below D.o).more D.o.size);clear ad t S1 B1;have R2:=Z_ (al.fresh w2 [a_ A2 4 c2,a_ V 4 c1,a_ A p.length c] #[a_ A2 4 c2,a_ V 4 c1,a_ A p.length c] rfl [cy gen,cy p.length,p] rfl (λi hi=>by
  simp at hi;rcases(show i=0\/i=1\/i=2 by omega)with rfl|rfl|rfl
  ·exact S2.o
  ·exact I.o
  exact P2.o) (by simp))
 go_wp2_with fail;refine(AS _ _ _ R2.o).mono ?_;rintro e w3 ⟨rfl,n3,rfl⟩;have ak:[cy gen,cy p.length,p].flatten=cy gen++cy p.length++p:=by simp
 rw[ak];clear ak R2;have ba:=qL (cy gen++cy p.length++p);have bb:x_ (aw gen p=[cy gen,cy p.length,cy (mQ (cy gen++cy p.length++p)),p].flatten):=Z_ (by unfold aw;simp);generalize mQ (cy gen++cy p.length++p)=C at*;obtain⟨w3,J⟩:=N_ ((w2.alloc (f_ #[a_ A2 4 c2,a_ V 4 c1,a_ A p.length c] 24)).drewN n3);have M:n_ w2 w2 w3:=by rw[J];exact below_drewN (ah w2 _) n3
 rw[<-J];clear J;go_wp2_with fail;refine(jX C ba w3).mono ?_;rintro e w4 ⟨A4,c4,rfl,av,a1⟩;have S4:=Z_ (Own.dH av);have j:=M.trans (a1.mono M.size);have O:=Z_ (D.o.trans (j.mono D.o.size));have R4:=Z_ (al.fresh w4 [a_ A2 4 c2,a_ V 4 c1,a_ A4 4 c4,a_ A p.length c] #[a_ A2 4 c2,a_ V 4 c1,a_ A4 4 c4,a_ A p.length c] rfl [cy gen,cy p.length,cy C,p] rfl (λi hi=>by
  simp at hi;rcases(show i=0\/i=1\/i=2\/i=3 by omega)with rfl|rfl|rfl|rfl
  ·exact(S2.o.below j).more j.size
  ·exact(I.o.below j).more j.size
  ·exact S4.o
  exact(P2.o.below j).more j.size) (by simp))
 clear av a1 j M S2 I P2 S4;have HL:x_ ([cy gen,cy p.length,cy C,p].flatten.length<=1000000):=Z_ (by simp[ep];omega);go_wp2_with fail;refine(yi _ _ _ R4.o HL.o).mono ?_;rintro e w5 ⟨A5,c5,rfl,U,a2⟩;rw[<-bb.o]at U⊢;have bd:=Z_ U;have bf:=Z_ (O.o.trans (((ah w4 _).trans (a2.mono (ah w4 (f_ #[a_ A2 4 c2,a_ V 4 c1,a_ A4 4 c4,a_ A p.length c] 24)).size)).mono O.o.size));have bg:=O.o.size;clear U a2 R4 HL;go_wp2;go_ret;exact⟨_,_,rfl,bd.o.base (by simp;omega),bf.o⟩
def EE(w:j_)(xs:List (List UInt8))(s:List UInt8)(e:Ending)(w':j_):Prop:=∃(i:Int) (n:Nat),e=k_ (e_ d_ i)/\decide (0<=i)=decide (s∈xs)/\w'=w.drewN n
theorem Bu(v:m_)(xs:List (List UInt8))(B:Nat)(w:j_)(h:bw w B v (strs xs))(s:List UInt8):
  H_ h_ 122 #[v,.string ⟨s.toArray⟩] w (EE w xs s):=by
 obtain⟨A,c,rfl,hc,hm,I⟩:=bw.open_strs h;have O:=Z_ I;clear I h;go_enter Tryz.func122,Tryz.ntmps122;go_wp2
 go_loopw [8] (λi wr=>∃k n:Nat,k<=xs.length/\i=e_ d_ k/\x_ (∀j,j<k->xs.getD j []≠s)/\wr=w.drewN n) (λi _=>xs.length - (intOf i).toNat)
 case atStart=>exact⟨0,0,by omega,rfl,Z_ (λj hj=>by omega),rfl⟩
 obtain⟨k,n,Z,rfl,J,rfl⟩:=hrel;by_cases t:k<xs.length
 ·obtain⟨b,off,x,rfl,hb,U,M⟩:=At.str O.o t
  by_cases he:s=x
  ·subst he
   go_wp2;go_ret;refine⟨k,n,rfl,?_,rfl⟩;rw[JR O_,JR];rw[<-M.o,s_,w_ t];exact JB t
  have V:(s==x)=false:=KN.2 he;have Y:=Z_ he;clear he;go_wp2;go_roundw
  case rel=>exact⟨k+1,n,by omega,by go_num,Z_ (λj hj=>by
   by_cases D:j<k
   ·exact J.o j D
   have:j=k:=by omega
   subst this;rw[M.o];exact λe=>Y.o e.symm),by first|rfl|trivial⟩
  simp[intOf];omega
 go_wp2;go_ret;refine⟨-1,n,rfl,?_,rfl⟩;rw[JJ O_,JJ];intro hs;obtain⟨j,hj,e⟩:=J4 hs;exact J.o j O_ (by rw[s_,w_ hj];exact e)
theorem ua(v:m_)(xs:List (List UInt8))(B:Nat)(w:j_)(h:bw w B v (strs xs))(s:List UInt8):
  H_ h_ 78 #[v,.string ⟨s.toArray⟩] w λe w'=>e=k_ (u_ (decide (s∈xs)))/\∃n,w'=w.drewN n:=by
 have hi:=Bu v xs B w h s;obtain⟨A,c,rfl,hc,hm,t⟩:=bw.open_strs h;have D:=Z_ hi;clear hi t h;go_enter Tryz.func78,Tryz.ntmps78;go_wp2_with fail;refine D.o.mono ?_;rintro e I ⟨i,n,rfl,j,rfl⟩;have HD:=Z_ j;clear j;go_wp2;go_ret;exact⟨by rw[<-HD.o];rfl,n,rfl⟩
def bV(fs:List af)(s:List UInt8):Bool:=decide (s∈fs.map af.name)
theorem dt(fs:List af)(s:List UInt8):bV fs s=(aj af.name s fs).isSome:=by
 unfold bV;cases j:aj af.name s fs with
 |none=>
  have:=qW j;simp;exact λx hx e=>this x hx e
 |some f=>
  obtain⟨h1,h2⟩:=aV j;simp;exact⟨f,h1,h2⟩
theorem uq(w:j_)(p:Nat)(st:St)(F:Nat->Prop)(h:Jw w p st F)(I:st.files.length<=100000)(J:∀f∈st.files,f.name.length<=100000)(s:List UInt8):
  H_ h_ 41 #[i_ (c_ ⟨p,0,b_⟩),.string ⟨s.toArray⟩] w λe w'=>e=k_ (u_ (bV st.files s))/\n_ w w w':=by
 have hn:=BE w p st F h I J;have U:=Z_ hn;clear hn h;go_enter Tryz.func41,Tryz.ntmps41;go_wp2_with fail;refine U.o.mono ?_;rintro e V ⟨v2,rfl,t,D⟩;have j:=ua v2 _ _ V (Own.dH t) s;rw[show decide (s∈st.files.map af.name)=bV st.files s from rfl]at j;obtain⟨r,hr⟩:=N_ (bV st.files s);rw[<-hr]at j;have M:=Z_ hr;clear hr;obtain⟨A2,c2,O⟩:=t.form;have Y:=Z_ j;have Z:=Z_ D;clear j D t;subst O;go_wp2_with fail;refine Y.o.mono ?_;rintro e w3 ⟨rfl,n3,rfl⟩;go_wp2;go_ret;exact⟨by rw[<-M.o];rfl,below_drewN Z.o n3⟩
theorem yf(c:Nat)(w:j_):H_ h_ 48 #[a_ b_ 0 c] w λe w'=>e=k_ (a_ b_ 0 0)/\w=w':=by
 have j:=λ(W:j_)=>Lib.run_eql_slice_nil (P:=h_) W 24 5 b_ 0 c 0 0 J9
 go_enter Tryz.func48,Tryz.ntmps48;go_wp2;go_ret;exact⟨rfl,rfl⟩
theorem ln(v:m_)(l:List UInt8)(w:j_)(h:bw w w v (l_ l))(j:l.length<=2147483648):
  H_ h_ 48 #[v] w λe w'=>∃u,e=k_ u/\Par.Own w' w 5 u (l_ l)/\n_ w w w':=by
 obtain⟨A,c,rfl,hc,hm,t⟩:=h.bq;cases A with
 |none=>
  have h0:l=[]:=by
   cases l with
   |nil=>rfl
   |cons x l=>obtain⟨b,off,e,-⟩:=t 0 (by simp);cases e
  subst h0;refine(yf c w).mono ?_;rintro e w' ⟨rfl,rfl⟩;exact⟨_,rfl,Par.Own.nil _ _ _,JG _ _⟩
 |some a=>exact qC a _ c l _ w h L_ j
theorem Rowed.rows{us:List m_}{wr:j_}(h:Rowed w ls ls.length v us wr):al (λb=>w.heap.size<=b/\b<wr.heap.size) wr v ls:=by
 refine⟨us,h.len,?_,λi hi=>(h.cells i hi).ae λb j=>⟨⟨j.1,j.2.1⟩,rfl⟩⟩;have:=Own.jf h.own (F:=λk=>k<w.heap.size) (λk t=>t);exact this.ae λb j=>⟨⟨by have:=j.2;omega,j.1⟩,rfl⟩
theorem qH(v:m_)(ls:List (List UInt8))(w:j_)(ak:al (·<w.heap.size) w v ls)(hl:ls.length<=1048576)(av:∀l∈ls,l.length<=1000000):
  H_ h_ 93 #[v] w λe w'=>∃u us,e=k_ u/\Rowed w ls ls.length u us w':=by
 obtain⟨A,c,rfl,hc,hm,HR⟩:=ak.open_;have bk:=Z_ av;clear av ak;have H0:x_ (Rowed w ls 0 (a_ b_ 0 0) [] w):=Z_ ⟨JG _ _,rfl,Par.Own.nil _ _ _,λi hi=>by omega⟩;go_enter Tryz.func93,Tryz.ntmps93;go_wp2
 go_loopw [3,8] (λs i wr=>∃(k:Nat) (us:List m_),k<=ls.length/\i=e_ d_ k/\x_ (Rowed w ls k s us wr)) (λ_ i _=>ls.length - (intOf i).toNat)
 case atStart=>exact⟨0,[],by omega,rfl,H0⟩
 obtain⟨k,us,hk,rfl,j⟩:=hrel;obtain⟨As,cs,t⟩:=j.o.own.form;rw[j.o.len]at t;subst t;have hz:=j.o.below.size;by_cases ad:k<ls.length
 ·obtain⟨b,off,Au,cu,rfl,hb,bm,a1⟩:=HR.o wr j.o.below k ad
  have hL:(ls.getD k []).length<=1000000:=by
   rw[s_,w_ ad];exact bk.o _ (JB ad)
  generalize a2:ls.getD k []=L at*;have bn:=Z_ a2;have ba:=Z_ (a1.more hz);clear a1 a2;go_wp2_with fail;refine(ln _ L wr ba.o O_).mono ?_;rintro e w2 ⟨u2,rfl,J,M⟩;have D:=(j.o.own.below M).alloc (f_ #[u2] 24);have V:=eB (Own.jf J (F:=λ_=>False) (λ_ h=>h.elim));have Y:=bw.new w2 24 #[u2] [u2] rfl (by simp[JT]);obtain⟨A2,c2,O⟩:=J.form;have bb:=Z_ J;have bd:=Z_ M;have bo:=M.size;have hlen:=j.o.len;clear J M ba;subst O;go_wp2_with (at_builtin;refine aE _ rfl _ _ _ rfl w 24 _ j8 _ _ rfl D _ _ _ rfl Y (λx hx=>by simp at hx;subst hx;exact V) ?c1 ?c2 ?_)
  case c1=>simp;omega
  case c2=>simp;omega
  intro v3 w3 I bf Z;have HN:=Z_ (j.o.next bd.o (by rw[bn.o];exact bb.o) _ I bf Z);clear I bf Z hlen;obtain⟨A3,c3,U⟩:=HN.o.own.form;subst U;clear bb bd D V Y bm;go_wp2;go_roundw
  case rel=>exact⟨k+1,_,by omega,by go_num,HN⟩
  simp[intOf];omega
 have bg:k=ls.length:=by omega
 have bj:=Z_ bg;clear bg;go_wp2;go_ret;refine⟨_,us,rfl,?_⟩;rw[<-bj.o];exact bj.o▸j.o
theorem C4(k:Int)(f:af)(h:f.safe<=f.data.length):mi k f<=f.data.length:=by unfold mi;omega
theorem oP(keeps:List Int)(s:List UInt8):∀(l:List af) (i:Nat) (f:af),aj af.name s l=c_ f->∃j,aj af.name s (cN keeps i l)=c_ (eZ keeps j f)
 |[],i,f,h=>by simp[aj]at h
 |g::l,i,f,h=>by
  rw[ca]at h;rw[cN,ca];split at h
  ·rename_i t
   cases h;exact⟨i,by rw[G_ (by exact t)]⟩
  rename_i t
  obtain⟨j,hj⟩:=oP keeps s l (i+1) f h;exact⟨j,by rw[I_ (by exact t),hj]⟩
theorem ru(keeps:List Int):∀(l:List af) (i:Nat) (f:af),f∈cN keeps i l->∃j g,g∈l/\f=eZ keeps j g
 |[],i,f,h=>by simp[cN]at h
 |g::l,i,f,h=>by
  rw[cN]at h;rcases JL.1 h with rfl|h
  ·exact⟨i,g,by simp,rfl⟩
  obtain⟨j,t,h1,h2⟩:=ru keeps l (i+1) f h;exact⟨j,t,by simp[h1],h2⟩
theorem Calm.qJ{fs:List af}(h:Calm fs k d)(keeps:List Int)(i:Nat):Calm (cN keeps i fs) k d:=by
 refine⟨by rw[lN];exact h.files,λf t=>?_,λf t=>?_,λf t=>?_⟩<;>obtain⟨j,g,D,rfl⟩:=ru keeps fs i f t
 ·exact h.names g D
 ·have:=h.data g D;simp only[eZ,JN];omega
 have:=C4 (kl keeps j) g (h.safe g D);simp only[eZ,JN];omega
theorem Calm.short{fs:List af}(h:Calm fs k d):∀f∈fs,f.name.length<=100000:=λf j=>by have:=DG (h.names f j);omega
theorem eF(A:Option Kb)(n c N:Nat)(w:j_)(h:N<=n):(KO 24 (a_ A n c) (c_ (e_ d_ (N:Int))) b_ b_).run h_ w=.ok (sliced A N n c 1) w:=by
 have j:h_.underlying 24=c_ (.slice (h_.elem 24)):=by simp[K7,J9]
 have he:h_.elem 24=5:=by simp[K7,J9]
 rw[run_slice_l w 24 _ _ _ j d_ _ O_ O_,he,My];simp[LK]
theorem xy(h:bw w B (a_ A l.length c) (l_ l))(k:Nat)(D:k<=l.length):k<=c/\bw w B (a_ A k c) (l_ (l.take k)):=by
 have j:bw w B (a_ A (l.take k++l.drop k).length c) (l_ (l.take k++l.drop k)):=by rw[KJ];exact h
 have t:(l.take k).length=k:=by simp;omega
 have:=Ce j;rw[t]at this;exact this
theorem fJ(h:bw w B (a_ A l.length c) (l_ l))(k:Nat)(M:k<=l.length):∃A2 c2,sliced A k l.length c 1=a_ A2 (l.length - k) c2/\bw w B (a_ A2 (l.length - k) c2) (l_ (l.drop k)):=by
 obtain⟨O,U,e,h2,V,D⟩:=h;rw[t_]at e h2 D;cases e;have j:(l_ (l.drop k)).length=l.length - k:=by rw[t_];simp
 by_cases I:k<l.length
 ·obtain⟨b,off,e,J,hc⟩:=D O_
  subst e;have hs:sliced (c_ ⟨b,off,b_⟩) k l.length c 1=a_ (c_ ⟨b,off+k,b_⟩) (l.length - k) (c - k):=by
   have t:¬c=k:=by omega
   unfold sliced;by_cases h0:k=0
   ·subst h0;simp[Addr.add]
   simp[Addr.add,t];omega
  refine⟨_,_,hs,_,c - k,by rw[j],by omega,by omega,λhp=>⟨b,off+k,rfl,J,λi hi=>?_⟩⟩;rw[j]at hi;rw[ME,hc _ O_];simp[l_]
 have he:l.drop k=[]:=List.drop_eq_nil_of_le O_;have hs:∃A2,sliced A k l.length c 1=a_ A2 (l.length - k) (c - k):=by
  unfold sliced;split<;>exact⟨_,rfl⟩
 obtain⟨A2,hs⟩:=hs;refine⟨A2,c - k,hs,A2,c - k,by rw[j],by omega,by omega,λh=>by omega⟩
theorem wrap64(x:Int)(h1:-9223372036854775808<=x)(h2:x<=9223372036854775807):d_.wrap x=x:=by
 simp only[IntKind.wrap,IntKind.signed,IntKind.bits];simp;omega
theorem D4(S:Nat->Prop)(w:j_):al S w (a_ b_ 0 0) []:=⟨[],rfl,⟨b_,0,rfl,by simp,by simp[JT],λh=>by simp at h⟩,λi hi=>by simp at hi⟩
open Go.RowKit Go.Lib Go.Vfs Go.Par Go.Shelf
section
variable{P:Program}{ops:Array Oper}{md:Region.Mode}{l n:Nat}{Q:Exit->Act->j_->Prop}
variable{a:Act}{w:j_}{K:Act->j_->Prop}
theorem uD{o:Oper}(j:∀c,o.op≠.defer c)(h:o.wp P a w K Q):o.wpIn (JK.inRound l) n P a w K Q:=by
 unfold Oper.wpIn;refine⟨λ_ _=>trivial,?_⟩;rw[show(JK.inRound l).round=c_ l from rfl,Oper.semAt_some l a.eval o j];unfold Oper.wp at h;generalize(execOp a.eval o).run P w=r at*;cases r with
 |ok m w'=>
  cases m<;>simp only[Oper.upon]at h<;>simp only[Oper.uponIn]
  case value=>exact h
  case skip=>exact h
  case defer=>exact h
  case enter f args=>exact⟨(λh=>by cases h),CallsIn.inRound l (Kg.2 h)⟩
  case row row args=>
   refine⟨(λh=>by cases h),?_⟩;have:RowsIn JK (n - 1) P row args w' λv t=>K (a.put o.dst v) t:=λc cs _=>let⟨v,D,r,s⟩:=h c cs;⟨v,D,r,stepsIn_wide.2 s⟩
   exact this
 |halt x w'=>cases x<;>simp only[Oper.upon]at h<;>simp only[Oper.uponIn]<;>exact h
theorem sc(D:gq ops.toList=true)(I:¬LetsOut Q){i:Nat}(j:wpOp P ops Q i K a w):wpOpIn (JK.inRound l) n P ops Q i K a w:=by
 unfold wpOp at j;unfold wpOpIn;split
 ·rename_i t;simp only[t]at j;exact j
 rename_i o t
 simp only[t]at j;split
 ·rename_i hw
  simp only[hw,Ml]at j;rcases j with j|⟨_,j⟩
  ·exact uD (my D (by simpa using t)) j
  exact absurd j I
 rename_i hw;simp only[hw]at j;exact⟨λ_ _=>trivial,j⟩
theorem k9(t:gq ops.toList=true)(D:¬LetsOut Q):∀(fuel:Nat) (j:Array Bool) (a:Act) (w:j_),wpAny P md ops Q fuel j a w->wpAnyIn (JK.inRound l) n P md ops Q fuel j a w
 |0,_,_,_,h=>h
 |fuel+1,_,_,_,h=>⟨h.1,λi hi=>wpOpIn_mono (λI w' J=>k9 t D fuel _ I w' J) (sc t D (h.2 i hi))⟩
theorem gS{id:Nat}{S:j_->Prop}(hm:P.follows .mixedOrders=true)(j:gq ops.toList=true)(t:¬LetsOut Q)
  (h:wpAnyH P .any ops Q S ops.size (Array.replicate ops.size o_) a w.drew):(Code.region id ops true).wpIn (JK.inRound l) n P Q a w:=
 wpIn_region_any hm (k9 j t _ _ _ _ (wpAny_of_held _ _ _ _ h))
end
variable{w W:j_}{B i f k:Nat}{b:List UInt8}{K:Nat->Prop}{u0 u1 u2 u3 x:m_}
theorem rT(A:Option Kb)(n c l h:Nat)(w:j_)(t:l<=h)(D:h<=c):(KO 24 (a_ A n c) (c_ (e_ d_ (l:Int))) (c_ (e_ d_ (h:Int))) b_).run h_ w=.ok (sliced A l h c 1) w:=by
 have j:h_.underlying 24=c_ (.slice (h_.elem 24)):=by simp[K7,J9]
 have he:h_.elem 24=5:=by simp[K7,J9]
 rw[run_slice_lh w 24 _ _ _ j d_ d_ _ _ O_ O_ O_,he,My];simp[LK]
theorem lG{A:Option Kb}{c:Nat}(hs:bw w B (a_ A b.length c) (l_ b))(l h:Nat)(I:l<=h)(J:h<=b.length):
  h<=c/\∃A2 c2,sliced A l h c 1=a_ A2 (h - l) c2/\bw w B (a_ A2 (h - l) c2) (l_ ((b.drop l).take (h - l))):=by
 obtain⟨h1,h2⟩:=xy hs h J;have j:(b.take h).length=h:=by simp;omega
 have M:bw w B (a_ A (b.take h).length c) (l_ (b.take h)):=by rw[j];exact h2
 obtain⟨A2,c2,t,D⟩:=fJ M l O_;rw[j,List.drop_take]at D;rw[j]at t;exact⟨h1,A2,c2,t,D⟩
structure Fr where
 gen:Nat
 aJ:List UInt8
 start:Nat
 stop:Nat
def dE(b:List UInt8)(i:Nat):Option Fr:=
 if b.length<i+12 then b_
 else if 65536<cj (b.drop (i+4))\/b.length<i+12+cj (b.drop (i+4))then b_
 else if mQ ((b.drop i).take 8++(b.drop (i+12)).take (cj (b.drop (i+4))))≠cj (b.drop (i+8))then b_
 else c_ ⟨cj (b.drop i),(b.drop (i+12)).take (cj (b.drop (i+4))),i,i+12+cj (b.drop (i+4))⟩
theorem dB{x:Fr}(h:dE b i=c_ x):x.start=i/\x.stop=i+12+x.aJ.length/\x.stop<=b.length/\x.aJ=(b.drop (i+12)).take x.aJ.length/\x.gen<4294967296/\x.aJ.length<=65536:=by
 unfold dE at h;split at h
 ·cases h
 split at h
 ·cases h
 split at h
 ·cases h
 cases h
 rename_i h1 h2 t
 have j:((b.drop (i+12)).take (cj (b.drop (i+4)))).length=cj (b.drop (i+4)):=by simp;omega
 refine⟨rfl,by simp only[j],by simp only;omega,by simp only[j],fH _,by simp only[j];omega⟩
abbrev cH (b:List UInt8):={x:Fr//dE b x.start=c_ x}
def kp(b:List UInt8):Nat->Nat->List (cH b)
 |0,_=>[]
 |f+1,i=>match h:dE b i with
  |none=>[]
  |some x=>⟨x,by rw[(dB h).1];exact h⟩::kp b f x.stop
def dM(b:List UInt8):List (cH b):=kp b (b.length+1) 0
theorem ik(h:dE b i=b_):kp b f i=[]:=by
 cases f with
 |zero=>rfl
 |succ f=>
  unfold kp;split
  ·rfl
  rename_i h2;rw[h]at h2;cases h2
theorem oa{x:Fr}(h:dE b i=c_ x):kp b (f+1) i=⟨x,by rw[(dB h).1];exact h⟩::kp b f x.stop:=by
 conv=>lhs;unfold kp
 split
 ·rename_i h2;rw[h]at h2;cases h2
 rename_i y h2
 rw[h]at h2;cases h2;rfl
def zS{b:List UInt8}(A:Option Kb)(c:Nat)(x:cH b):Array m_:=#[.agg #[e_ KW x.1.gen,sliced A (x.1.start+12) x.1.stop c 1,e_ d_ x.1.stop]]
def vl(K:Nat->Prop)(W W':j_):Prop:=W.heap.size<=W'.heap.size/\∀k,K k->W'.heap[k]?=W.heap[k]?
theorem vl.t{A B C:j_}(h:vl K A B)(k:vl K B C):vl K A C:=⟨Kj h.1 k.1,λi hi=>(k.2 i hi).trans (h.2 i hi)⟩
theorem vl.below{W':j_}(h:n_ B W W')(j:∀k,K k->k<B):vl K W W':=⟨h.size,λk t=>h.block k (j k t)⟩
attribute [local go_sem] Oper.semAt_some
theorem mX(w:j_)(A:Option Kb)(c:Nat)(b:List UInt8)(K:Nat->Prop)(bf:a8 K w (a_ A b.length c) (l_ b))(V:Nat)(cv:K V)(Y:∀k,K k->k<w.heap.size)
  (hc:w.heap[V]?=c_ (f_ #[a_ A b.length c] 24 (0,0))) (hl:b.length<=2000000):
  SeqStopsK JK 6 h_ 123 #[i_ (c_ ⟨V,0,b_⟩)] (zS (b:=b) A c) (vl K) (λys=>ys=dM b) (λpre=>pre<+:dM b) (dM b).length w:=by
 intro l J Jx W hW hJ eC hY h0;have HS:=Z_ bf;have HC:=Z_ hc;have HW:=Z_ hW;have HK:=Z_ Y;have cx:x_ (vl K w W):=Z_ (vl.below hW Y);clear bf hc hW Y;have e0:JK.fn 83:=trivial;have e1:JK.fn 89:=trivial;refine callsIn_of_wp Tryz.func123 rfl trivial ?_ rfl;simp only[Tryz.ntmps123,KB,Jz,JP,Nat.reduceAdd,Nat.reduceSub,KF,KG,KP,KK,Kl,Ka];gi_wp2
 gi_loopw [3] (λi wr=>∃(k f:Nat) (pre:List (cH b)),k<=b.length/\b.length<k+f/\i=e_ d_ k/\x_ (dM b=pre++kp b f k)/\x_ (vl K w wr)/\J pre wr/\W.heap.size<=wr.heap.size) (λi _=>b.length - (intOf i).toNat)
 case atStart=>exact⟨0,b.length+1,[],by omega,by omega,rfl,Z_ rfl,cx,h0,Kh _⟩
 obtain⟨k,f,pre,hk,hf,rfl,HP,Z,a2,e2⟩:=hrel;have hB:wr.heap[V]?=c_ (f_ #[a_ A b.length c] 24 (0,0)):=(Z.o.2 V cv).trans HC.o;have cB:wr.cell? ⟨V,0,b_⟩=c_ (a_ A b.length c):=by simp[E_,hB]
 have b0:bw wr wr (a_ A b.length c) (l_ b):=(HS.o.ae (S':=K) λx hx=>⟨hx,Z.o.2 x hx⟩).dH λx hx=>by have:=HK.o x hx;have:=Z.o.1;omega
 have bg:=Z_ b0;clear hB b0;by_cases ad:b.length<k+12
 ·have HE:x_ (dM b=pre):=Z_ (by rw[HP.o,ik (by unfold dE;rw[G_ ad])];simp)
  have hd:¬(12:Int)<=(b.length:Int) - (k:Int):=by omega
  gi_wp2
  go_end0
  exact⟨⟨_,rfl⟩,.inl (by first|exact⟨pre,HE.o.symm,a2⟩|(rw[HE.o];exact a2))⟩
 have hd:(12:Int)<=(b.length:Int) - (k:Int):=by omega
 have b1:V<wr:=JY _ _ cB;have I:x_ (∀(m:Nat),m+4<=b.length->∃Am cm,(∀w',(KO 24 (a_ A b.length c) (c_ (e_ d_ (m:Int))) b_ b_).run h_ w'=.ok (a_ Am (b.length - m) cm) w')/\∀X,n_ wr wr X->H_ h_ 83 #[a_ Am (b.length - m) cm] X λe w'=>e=k_ (e_ KW (cj (b.drop m):Nat))/\x_ (n_ wr wr w')/\w'.cell? ⟨V,0,b_⟩=c_ (a_ A b.length c)):=Z_ λm hm=>by
  obtain⟨Am,cm,em,sm⟩:=fJ bg.o m O_;refine⟨Am,cm,λw'=>by rw[eF A b.length c m w' O_,em],λX hX=>?_⟩;refine(tL _ _ _ X (sm.below hX) (by simp;omega)).mono ?_;rintro e w' ⟨rfl,n,rfl⟩;exact⟨rfl,Z_ (below_drewN hX n),(hX.cell (p:=⟨V,0,b_⟩) b1).trans cB⟩
 obtain⟨A4,c4,b2,b3⟩:=I.o (k+4) O_;rw[show((k+4:Nat):Int)=(k:Int)+4 by omega]at b2;have ak:=Z_ (b3 wr B_);clear b3;have hN:=fH (b.drop (k+4));obtain⟨N,bj⟩:=N_ (cj (b.drop (k+4)));rw[<-bj]at ak hN;have ba:=Z_ bj;clear bj;have bb:=Z_ a2;clear a2;by_cases b5:65536<N
 ·have HE:x_ (dM b=pre):=Z_ (by rw[HP.o,ik (by unfold dE;rw[I_ ad,G_ (.inl (by rw[<-ba.o];exact b5))])];simp)
  have bk:(65536:Int)<(N:Int):=by omega
  gi_wp2_with (gi_at_call 83;refine(Kg.2 ak.o).mono ?_;rintro e w1 ⟨rfl,j,bm⟩)
  have av:=hJ _ _ _ b_ bb.o ⟨j.o.os,j.o.tape,j.o.output,j.o.size,λk hk _=>j.o.block k hk⟩ (λr e=>by cases e);refine C_ (Mh rfl _ _ _) rfl ?_;exact⟨⟨_,rfl⟩,.inl (by first|exact⟨pre,HE.o.symm,av⟩|(rw[HE.o];exact av))⟩
 by_cases bn:b.length<k+12+N
 ·have HE:x_ (dM b=pre):=Z_ (by rw[HP.o,ik (by unfold dE;rw[I_ ad,G_ (.inr (by rw[<-ba.o];exact bn))])];simp)
  have bk:¬(65536:Int)<(N:Int):=by omega
  have b6:(b.length:Int) - (k:Int) - 12<(N:Int):=by omega
  gi_wp2_with (gi_at_call 83;refine(Kg.2 ak.o).mono ?_;rintro e w1 ⟨rfl,j,bm⟩)
  have av:=hJ _ _ _ b_ bb.o ⟨j.o.os,j.o.tape,j.o.output,j.o.size,λk hk _=>j.o.block k hk⟩ (λr e=>by cases e);refine C_ (Mh rfl _ _ _) rfl ?_;exact⟨⟨_,rfl⟩,.inl (by first|exact⟨pre,HE.o.symm,av⟩|(rw[HE.o];exact av))⟩
 have bk:¬(65536:Int)<(N:Int):=by omega
 have b6:¬(b.length:Int) - (k:Int) - 12<(N:Int):=by omega
 obtain⟨cE,A5,c5,e5,s5⟩:=lG bg.o (k+12) (k+12+N) O_ O_;obtain⟨cF,A8,c8,e8,s8⟩:=lG bg.o k (k+8) O_ O_;rw[show k+12+N - (k+12)=N by omega]at e5 s5;rw[show k+8 - k=8 by omega]at e8 s8;have c6:∀w',(KO 24 (a_ A b.length c) (c_ (e_ d_ ((k:Int)+12))) (c_ (e_ d_ ((k:Int)+12+(N:Int)))) b_).run h_ w'=.ok (a_ A5 N c5) w':=λw'=>by
  have:=rT A b.length c (k+12) (k+12+N) w' O_ cE;rwa[e5,show((k+12:Nat):Int)=(k:Int)+12 by omega,show((k+12+N:Nat):Int)=(k:Int)+12+(N:Int) by omega]at this
 have c7:∀w',(KO 24 (a_ A b.length c) (c_ (e_ d_ (k:Int))) (c_ (e_ d_ ((k:Int)+8))) b_).run h_ w'=.ok (a_ A8 8 c8) w':=λw'=>by
  have:=rT A b.length c k (k+8) w' O_ cF;rwa[e8,show((k+8:Nat):Int)=(k:Int)+8 by omega]at this
 have a1:x_ (∀X,n_ wr wr X->H_ h_ 89 #[a_ (c_ ⟨X,0,b_⟩) 2 2] ((X.alloc (f_ #[a_ A8 8 c8,a_ A5 N c5] 24)).drew) λe w'=>e=k_ (e_ KW (mQ ((b.drop k).take 8++(b.drop (k+12)).take N):Nat))/\x_ (n_ wr wr w')/\w'.cell? ⟨V,0,b_⟩=c_ (a_ A b.length c)):=Z_ λX hX=>by
  have r:=al.fresh X [a_ A8 8 c8,a_ A5 N c5] #[a_ A8 8 c8,a_ A5 N c5] rfl [(b.drop k).take 8,(b.drop (k+12)).take N] rfl (λi hi=>by
   simp at hi;rcases(show i=0\/i=1 by omega)with rfl|rfl
   ·exact(s8.below hX).more hX.size
   exact(s5.below hX).more hX.size) (by simp)
  refine(AS _ _ ((X.alloc (f_ #[a_ A8 8 c8,a_ A5 N c5] 24)).drew) r).mono ?_;rintro e w' ⟨rfl,n,rfl⟩;have cb:n_ wr wr (X.alloc (f_ #[a_ A8 8 c8,a_ A5 N c5] 24)):=hX.alloc hX.size _;exact⟨by simp,Z_ (below_drewN cb.drew n),(cb.cell (p:=⟨V,0,b_⟩) b1).trans cB⟩
 obtain⟨A9,c9,cc,cd⟩:=I.o (k+8) O_;rw[show((k+8:Nat):Int)=(k:Int)+8 by omega]at cc;have bo:=Z_ cd;obtain⟨A0,c0,e3,cf⟩:=I.o k O_;have bp:=Z_ cf;have df:=Z_ e5;clear cd cf s5 s8 e5 e8 I;have hC:=qL ((b.drop k).take 8++(b.drop (k+12)).take N);have hM:=fH (b.drop (k+8));obtain⟨C,bt⟩:=N_ (mQ ((b.drop k).take 8++(b.drop (k+12)).take N));obtain⟨M,bx⟩:=N_ (cj (b.drop (k+8)));rw[<-bt]at a1 hC;rw[<-bx]at bo hM;have cg:=Z_ bt;have ch:=Z_ bx;clear bt bx;gi_wp2_with (gi_at_call 83;refine(Kg.2 ak.o).mono ?_;rintro e w1 ⟨rfl,j,bm⟩)
 clear b2 ak c6 cB;refine wpIn_wide.2 ?_;have dv:d_.wrap ((k:Int)+8)=(k:Int)+8:=IntWalk.i64_in _ O_
 go_region_held3 (λw'=>w'.cell? ⟨V,0,b_⟩=c_ (a_ A b.length c)) (first|go_keep|assumption) (first
  |(go_at_call 89;refine(a1.o w1 j.o).mono ?_;rintro e w2 ⟨rfl,eb,ec⟩)
  |(go_at_call 83;refine(bo.o _ eb.o).mono ?_;rintro e w3 ⟨rfl,O,ee⟩))
 clear dv c7 cc a1 bo bk b6;have bd:=hJ _ _ _ b_ bb.o ⟨O.o.os,O.o.tape,O.o.output,O.o.size,λk hk _=>O.o.block k hk⟩ (λr e=>by cases e);have ck:=Z_ bd;clear bd;by_cases U:C=M
 ·have HX:x_ (dE b k=c_ ⟨cj (b.drop k),(b.drop (k+12)).take N,k,k+12+N⟩):=Z_ (by
   unfold dE;rw[I_ ad,<-ba.o,I_ O_,<-cg.o,<-ch.o,I_ (by simpa using U)])
  obtain⟨f',rfl⟩:∃f',f=f'+1:=⟨f - 1,by omega⟩;obtain⟨x0,bB,cl⟩:∃x0:cH b,x0.1=⟨cj (b.drop k),(b.drop (k+12)).take N,k,k+12+N⟩/\dM b=(pre++[x0])++kp b f' (k+12+N):=⟨⟨_,HX.o⟩,rfl,by rw[HP.o,oa HX.o];simp⟩;have bN:=Z_ cl;clear cl;have cp:pre.length<(dM b).length:=by rw[bN.o];simp
  have eg:((C:Int) !=(M:Int))=false:=by simp[U]
  have hG:=fH (b.drop k);obtain⟨G,bO⟩:=N_ (cj (b.drop k));rw[<-bO]at bp hG bB;have e4:=Z_ bO;clear bO;have en:=Z_ bB;clear bB;have cr:=Z_ (bp.o w3 O.o);have e6:=Z_ U;clear U bm ec bp;gi_wp2_with (gi_at_call 83;refine(Kg.2 cr.o).mono ?_;rintro e w7 ⟨rfl,D,eo⟩)
  have ct:=hJ _ _ _ b_ bb.o ⟨D.o.os,D.o.tape,D.o.output,D.o.size,λk hk _=>D.o.block k hk⟩ (λr e=>by cases e);obtain⟨fn,tmps,assign,body,hy,hR⟩:=hY pre x0 w7 ct cp;dsimp only[zS]at hy;rw[en.o]at hy;simp only at hy;rw[df.o,show((k+12+N:Nat):Int)=(k:Int)+12+(N:Int) by omega]at hy;clear ct eo ee;rw[hy,Mj];refine⟨(λh=>by cases h),?_⟩;refine hR.mono ?_;rintro e W3 (⟨rfl,bd,bR⟩|⟨rfl,cu⟩)
  ·have ev:x_ (vl K w W3):=Z_ ((Z.o.t (vl.below D.o (λx hx=>by have:=HK.o x hx;have:=Z.o.1;omega))).t bR)
   have eA:W.heap.size<=W3.heap.size:=by have:=bR.1;have:=D.o.size;omega
   clear bR hy hR;gi_wp2;go_roundw
   case rel=>exact⟨k+12+N,f',_,by omega,by omega,by go_num,bN,ev,bd,eA⟩
   simp[intOf];omega
  clear hy hR;gi_wp2;refine C_ (Mh rfl _ _ _) rfl ?_;exact⟨⟨_,rfl⟩,.inr ⟨_,⟨_,bN.o.symm⟩,cu⟩⟩
 have HE:x_ (dM b=pre):=Z_ (by
  rw[HP.o,ik (by unfold dE;rw[I_ ad,<-ba.o,I_ O_,<-cg.o,<-ch.o,G_ U])];simp)
 have eg:((C:Int) !=(M:Int))=true:=by simp;omega
 clear U;gi_wp2;refine C_ (Mh rfl _ _ _) rfl ?_;exact⟨⟨_,rfl⟩,.inl (by first|exact⟨pre,HE.o.symm,ck.o⟩|(rw[HE.o];exact ck.o))⟩
theorem dQ{b:Nat}{t:Ki}(h:w.heap[b]?=c_ (f_ #[u0,u1,u2,u3] t (0,0)))(x:m_):
  (w.setCell ⟨b,1,b_⟩ x).heap[b]?=c_ (f_ #[u0,x,u2,u3] t (0,0))/\(w.setCell ⟨b,2,b_⟩ x).heap[b]?=c_ (f_ #[u0,u1,x,u3] t (0,0))/\(w.setCell ⟨b,3,b_⟩ x).heap[b]?=c_ (f_ #[u0,u1,u2,x] t (0,0)):=by
 refine⟨?_,?_,?_⟩;all_goals
  simp only[Kd,Array.getElem?_modify,h];simp
theorem dh{b:Nat}{t:Ki}(h:W.heap[b]?=c_ (f_ #[u0,u1,u2,u3] t (0,0))):
  (W.cell? ⟨b,0,b_⟩=c_ u0/\W.cell? ⟨b,1,b_⟩=c_ u1/\W.cell? ⟨b,2,b_⟩=c_ u2/\W.cell? ⟨b,3,b_⟩=c_ u3)/\W.frozen? ⟨b,1,b_⟩=o_/\W.frozen? ⟨b,2,b_⟩=o_/\W.frozen? ⟨b,3,b_⟩=false:=by
 simp[E_,JW,h]
theorem ab{a:Kb}(h:k≠a.block):(w.setCell a x).heap[k]?=w.heap[k]?:=JZ _ _ _ _ h
theorem eE{b:Nat}{o:Obj}(h:w.heap[k]?=c_ o)(hc:o.isCells=true):∃j,(w.setCell ⟨b,i,b_⟩ x).heap[k]?=c_ j/\j.isCells=true:=by
 by_cases D:k=b
 ·subst D
  cases o<;>simp[Obj.isCells]at hc
  rename_i cs t I
  have e:(w.setCell ⟨k,i,b_⟩ x).heap[k]?=c_ (f_ (cs.setIfInBounds i x) t I):=by
   simp[Kd,Array.getElem?_modify,h]
  exact⟨_,e,rfl⟩
 exact⟨o,(ab D).trans h,hc⟩
def JD(G:Nat->Prop)(pj:Nat)(bv lv:m_)(b:Nat):Prop:=G b/\b≠pj/\bv.ownBlock≠c_ b/\lv.ownBlock≠c_ b
structure JV(w:j_)(pj p gen:Nat)(bv lv:m_)(bs us:List m_)(base log:List (List UInt8))(G:Nat->Prop):Prop where
 head:w.heap[pj]?=c_ (f_ #[i_ (c_ ⟨p,0,b_⟩),e_ KW (gen:Nat),bv,lv] 95 (0,0))
 mf:w.ownsRow 0 24 1 bv base.length bs
 jB:w.ownsRow 0 24 1 lv log.length us
 CW:∀i,i<base.length->a8 (JD G pj bv lv) w (bs.getD i (u_ o_)) (l_ (base.getD i []))
 Dx:∀i,i<log.length->a8 (JD G pj bv lv) w (us.getD i (u_ o_)) (l_ (log.getD i []))
 jJ:G pj
 gb:∀g,bv.ownBlock=c_ g->G g/\g≠pj
 gl:∀g,lv.ownBlock=c_ g->G g/\g≠pj/\bv.ownBlock≠c_ g
 EA:∀k,G k->∃o,w.heap[k]?=c_ o/\o.isCells=true
 ra:gen<4294967296
section
variable{w w' X:j_}{pj p gen:Nat}{bv lv:m_}{bs us:List m_}{base log:List (List UInt8)}{G:Nat->Prop}
variable{base' B:Nat}{v u2:m_}{α:Type}{w5:j_}{l2:List UInt8}
theorem JV.lt(h:JV w pj p gen bv lv bs us base log G):∀k,G k->k<w.heap.size:=λk j=>by
 obtain⟨o,t,-⟩:=h.EA k j;exact F_ t
theorem JV.block(h:JV w pj p gen bv lv bs us base log G)(j:∀k,G k->w'.heap[k]?=w.heap[k]?):JV w' pj p gen bv lv bs us base log G:=
 ⟨(j _ h.jJ).trans h.head,aO h.mf (λg t=>j g (h.gb g t).1),aO h.jB (λg t=>j g (h.gl g t).1),λi hi=>(h.CW i hi).ae λb D=>⟨D,j b D.1⟩,λi hi=>(h.Dx i hi).ae λb D=>⟨D,j b D.1⟩,h.jJ,h.gb,h.gl,
  λk t=>by obtain⟨o,I,hc⟩:=h.EA k t;exact⟨o,(j k t).trans I,hc⟩,h.ra⟩
theorem JV.go(h:JV w pj p gen bv lv bs us base log G)(j:n_ w w w'):JV w' pj p gen bv lv bs us base log G:=h.block λk t=>j.block k (h.lt k t)
theorem JV.kept(h:JV w pj p gen bv lv bs us base log G){F:Nat->Prop}(t:Kept F w w')(D:∀k,G k->¬F k):JV w' pj p gen bv lv bs us base log G:=h.block λk j=>t.block k (h.lt k j) (D k j)
theorem JV.walk(h:JV w pj p gen bv lv bs us base log G){row:Option Nat}(I:w.grownBy w' row)(hr:∀r,row=c_ r->∃o:Obj,w.heap[r]?=c_ o/\o.isCells=o_):JV w' pj p gen bv lv bs us base log G:=h.block λk J=>by
 obtain⟨o,D,hc⟩:=h.EA k J;refine I.block k (F_ D) (λe=>?_);obtain⟨M,j,t⟩:=hr k e.symm;rw[D]at j;cases j;rw[hc]at t;cases t
theorem JV.cells(h:JV w pj p gen bv lv bs us base log G):(w.cell? ⟨pj,0,b_⟩=c_ (i_ (c_ ⟨p,0,b_⟩))/\w.cell? ⟨pj,1,b_⟩=c_ (e_ KW (gen:Nat))/\w.cell? ⟨pj,2,b_⟩=c_ bv/\w.cell? ⟨pj,3,b_⟩=c_ lv)/\w.frozen? ⟨pj,1,b_⟩=o_/\w.frozen? ⟨pj,2,b_⟩=o_/\w.frozen? ⟨pj,3,b_⟩=false:=dh h.head
theorem jZ{e:Ki}{n:Nat}{xs:List m_}(h:w.ownsRow base' e 1 v n xs):∀g,v.ownBlock=c_ g->∃o,w.heap[g]?=c_ o/\o.isCells=true:=by
 intro g j;rcases h.2 with⟨rfl,_⟩|⟨D,cap,cur,rfl,_,t,_⟩
 ·cases j
 cases j;exact⟨_,t,rfl⟩
theorem AM{l:List UInt8}(h:Par.Own w base' 5 v (l_ l)):a8 (λb=>v.ownBlock=c_ b) w v (l_ l):=by
 have J:=h.lt;rcases h.2 with⟨rfl,h0⟩|⟨g,cap,cur,rfl,M,O,j,t,I,D⟩
 ·have:l_ l=[]:=JH h0
  rw[this];exact⟨b_,0,rfl,by simp,by simp[JT],λh=>by simp at h⟩
 refine⟨_,cap,rfl,j,t,λ_=>⟨g,0,rfl,rfl,λi hi=>?_⟩⟩;have hc:=LB (g:=g) h rfl i ((l_ l)[i]'hi) (w_ hi);rw[<-cS,hc,w_ hi]
theorem fG(l:List α)(x d:α)(i:Nat)(h:i<l.length):(l++[x]).getD i d=l.getD i d:=by simp[s_,Kx,h]
theorem fF(l:List α)(x d:α):(l++[x]).getD l.length d=x:=by simp[s_]
theorem JV.FQ(h:JV X pj p gen bv lv bs us base log G)(hu:Par.Own X B 5 u2 (l_ l2))(hN:∀g,u2.ownBlock=c_ g->¬G g){j:m_}
  (Y:w5.ownsRow 0 24 1 j (log.length+1) (us++[u2])) (hg:X.grownBy w5 lv.ownBlock) (U:j.ownBlock=lv.ownBlock\/j.ownBlock=c_ X.heap.size):
  JV (w5.setCell ⟨pj,3,b_⟩ j) pj p gen bv j bs (us++[u2]) base (log++[l2]) (λb=>(G b/\lv.ownBlock≠c_ b)\/u2.ownBlock=c_ b\/j.ownBlock=c_ b):=by
 have D:=h.lt;have ad:=hu.lt;have V:=h.jJ;have same:∀k,k<X.heap.size->lv.ownBlock≠c_ k->w5.heap[k]?=X.heap[k]?:=λk I hn=>hg.block k I (λe=>hn e.symm)
 have J:lv.ownBlock≠c_ pj:=λe=>(h.gl pj e).2.1 rfl
 have M:j.ownBlock≠c_ pj:=λe=>by
  rcases U with t|t
  ·exact J (t.symm.trans e)
  rw[t]at e;cases e;have:=D _ V;omega
 have gu:∀b,JD G pj bv lv b->JD (λb=>(G b/\lv.ownBlock≠c_ b)\/u2.ownBlock=c_ b\/j.ownBlock=c_ b) pj bv j b/\(w5.setCell ⟨pj,3,b_⟩ j).heap[b]?=X.heap[b]?:=λb ⟨b1,b2,b3,b4⟩=>by
  have hb:=D b b1;refine⟨⟨.inl ⟨b1,b4⟩,b2,b3,λe=>?_⟩,(ab b2).trans (same b hb b4)⟩;rcases U with t|t
  ·exact b4 (t.symm.trans e)
  rw[t]at e;cases e;omega
 have nw:∀b,u2.ownBlock=c_ b->JD (λb=>(G b/\lv.ownBlock≠c_ b)\/u2.ownBlock=c_ b\/j.ownBlock=c_ b) pj bv j b/\(w5.setCell ⟨pj,3,b_⟩ j).heap[b]?=X.heap[b]?:=λb hb=>by
  have av:=(ad b hb).2;have Z:=hN b hb;have h1:b≠pj:=λe=>Z (e▸V)
  have h2:lv.ownBlock≠c_ b:=λe=>Z (h.gl b e).1
  refine⟨⟨.inr (.inl hb),h1,λe=>Z (h.gb b e).1,λe=>?_⟩,(ab h1).trans (same b av h2)⟩;rcases U with t|t
  ·exact h2 (t.symm.trans e)
  rw[t]at e;cases e;omega
 have a1:us.length=log.length:=by have:=h.jB.1;simpa using this
 refine⟨(dQ ((same pj (D _ V) J).trans h.head) j).2.2,?_,?_,λi hi=>(h.CW i hi).ae gu,λi hi=>?_,.inl ⟨V,J⟩,λg e=>⟨.inl ⟨(h.gb g e).1,λO=>(h.gl g O).2.2 e⟩,(h.gb g e).2⟩,λg e=>⟨.inr (.inr e),λO=>M (O▸e),λO=>?_⟩,λk I=>?_,h.ra⟩
 ·exact aO h.mf λg e=>(ab (h.gb g e).2).trans (same g (D g (h.gb g e).1) (λO=>(h.gl g O).2.2 e))
 ·rw[p_]
  exact aO Y λg e=>ab (λ(O:g=pj)=>M (O▸e))
 ·by_cases ak:i<log.length
  ·rw[fG _ _ _ _ O_,fG _ _ _ _ ak]
   exact(h.Dx i ak).ae gu
  have:i=log.length:=by simp at hi;omega
  subst this;rw[fF,<-a1,fF];exact(AM hu).ae nw
 ·rcases U with t|t
  ·exact(h.gl g (t▸e)).2.2 O
  rw[t]at e;cases e;have:=D _ (h.gb _ O).1;omega
 rcases I with I|I|I
 ·obtain⟨o,ho,hc⟩:=h.EA k I.1
  exact eE ((same k (D k I.1) I.2).trans ho) hc
 ·obtain⟨o,ho,hc⟩:=jZ hu k I
  exact eE ((same k (ad k I).2 (λe=>hN k I (h.gl k e).1)).trans ho) hc
 obtain⟨o,ho,hc⟩:=jZ Y k I;exact eE ho hc
theorem JV.Hw(h:JV X pj p gen bv lv bs us base log G)(hu:Par.Own X B 5 u2 (l_ l2))(hN:∀g,u2.ownBlock=c_ g->¬G g){j:m_}
  (V:w5.ownsRow 0 24 1 j (base.length+1) (bs++[u2])) (hg:X.grownBy w5 bv.ownBlock) (O:j.ownBlock=bv.ownBlock\/j.ownBlock=c_ X.heap.size):
  JV (w5.setCell ⟨pj,2,b_⟩ j) pj p gen j lv (bs++[u2]) us (base++[l2]) log (λb=>(G b/\bv.ownBlock≠c_ b)\/u2.ownBlock=c_ b\/j.ownBlock=c_ b):=by
 have D:=h.lt;have ad:=hu.lt;have U:=h.jJ;have same:∀k,k<X.heap.size->bv.ownBlock≠c_ k->w5.heap[k]?=X.heap[k]?:=λk I hn=>hg.block k I (λe=>hn e.symm)
 have J:bv.ownBlock≠c_ pj:=λe=>(h.gb pj e).2 rfl
 have M:j.ownBlock≠c_ pj:=λe=>by
  rcases O with t|t
  ·exact J (t.symm.trans e)
  rw[t]at e;cases e;have:=D _ U;omega
 have gu:∀b,JD G pj bv lv b->JD (λb=>(G b/\bv.ownBlock≠c_ b)\/u2.ownBlock=c_ b\/j.ownBlock=c_ b) pj j lv b/\(w5.setCell ⟨pj,2,b_⟩ j).heap[b]?=X.heap[b]?:=λb ⟨b1,b2,b3,b4⟩=>by
  have hb:=D b b1;refine⟨⟨.inl ⟨b1,b3⟩,b2,λe=>?_,b4⟩,(ab b2).trans (same b hb b3)⟩;rcases O with t|t
  ·exact b3 (t.symm.trans e)
  rw[t]at e;cases e;omega
 have nw:∀b,u2.ownBlock=c_ b->JD (λb=>(G b/\bv.ownBlock≠c_ b)\/u2.ownBlock=c_ b\/j.ownBlock=c_ b) pj j lv b/\(w5.setCell ⟨pj,2,b_⟩ j).heap[b]?=X.heap[b]?:=λb hb=>by
  have av:=(ad b hb).2;have Y:=hN b hb;have h1:b≠pj:=λe=>Y (e▸U)
  have h2:bv.ownBlock≠c_ b:=λe=>Y (h.gb b e).1
  refine⟨⟨.inr (.inl hb),h1,λe=>?_,λe=>Y (h.gl b e).1⟩,(ab h1).trans (same b av h2)⟩;rcases O with t|t
  ·exact h2 (t.symm.trans e)
  rw[t]at e;cases e;omega
 have a1:bs.length=base.length:=by have:=h.mf.1;simpa using this
 refine⟨(dQ ((same pj (D _ U) J).trans h.head) j).2.1,?_,?_,λi hi=>?_,λi hi=>(h.Dx i hi).ae gu,.inl ⟨U,J⟩,λg e=>⟨.inr (.inr e),λZ=>M (Z▸e)⟩,λg e=>⟨.inl ⟨(h.gl g e).1,(h.gl g e).2.2⟩,(h.gl g e).2.1,λZ=>?_⟩,λk I=>?_,h.ra⟩
 ·rw[p_]
  exact aO V λg e=>ab (λ(Z:g=pj)=>M (Z▸e))
 ·exact aO h.jB λg e=>(ab (h.gl g e).2.1).trans (same g (D g (h.gl g e).1) (h.gl g e).2.2)
 ·by_cases ak:i<base.length
  ·rw[fG _ _ _ _ O_,fG _ _ _ _ ak]
   exact(h.CW i ak).ae gu
  have:i=base.length:=by simp at hi;omega
  subst this;rw[fF,<-a1,fF];exact(AM hu).ae nw
 ·rcases O with t|t
  ·exact(h.gl g e).2.2 (t▸Z)
  rw[t]at Z;cases Z;have:=D _ (h.gl _ e).1;omega
 rcases I with I|I|I
 ·obtain⟨o,ho,hc⟩:=h.EA k I.1
  exact eE ((same k (D k I.1) I.2).trans ho) hc
 ·obtain⟨o,ho,hc⟩:=jZ hu k I
  exact eE ((same k (ad k I).2 (λe=>hN k I (h.gb k e).1)).trans ho) hc
 obtain⟨o,ho,hc⟩:=jZ V k I;exact eE ho hc
theorem JV.GM(h:JV w pj p gen bv lv bs us base log G)(j:Nat)(I:j<4294967296):JV (w.setCell ⟨pj,1,b_⟩ (e_ KW (j:Nat))) pj p j bv lv bs us base log G:=by
 have same:∀k,k≠pj->(w.setCell ⟨pj,1,b_⟩ (e_ KW (j:Nat))).heap[k]?=w.heap[k]?:=λk D=>ab D
 refine⟨(dQ h.head _).1,aO h.mf λg e=>same g (h.gb g e).2,aO h.jB λg e=>same g (h.gl g e).2.1,λi hi=>(h.CW i hi).ae λb t=>⟨t,same b t.2.1⟩,λi hi=>(h.Dx i hi).ae λb t=>⟨t,same b t.2.1⟩,h.jJ,h.gb,h.gl,λk D=>?_,I⟩;obtain⟨o,J,hc⟩:=h.EA k D;exact eE J hc
end
attribute [local go_sem] Oper.semAt_some
section
variable{b:List UInt8}
def bD(l:List (cH b)):Nat:=(l.getLast?.map (·.1.stop)).getD 0
def aU(gen:Nat)(l:List (cH b)):List (cH b):=l.takeWhile λx=>x.1.gen==gen
def dR(l:List (cH b)):List (List UInt8):=l.map (·.1.aJ)
theorem ir(l:List (cH b))(x:cH b):bD (l++[x])=x.1.stop:=by simp[bD]
theorem tt(l:List (cH b))(x:cH b):dR (l++[x])=dR l++[x.1.aJ]:=by simp[dR]
theorem pF{gen:Nat}{l:List (cH b)}(h:∀x∈l,x.1.gen=gen):aU gen l=l:=by
 unfold aU
 induction l with
 |nil=>rfl
 |cons x l j=>rw[Mn,G_ (by simpa using h x (by simp)),j (λy t=>h y (by simp[t]))]
theorem xt{gen:Nat}{l pre:List (cH b)}{x:cH b}(h:∀y∈pre,y.1.gen=gen)(hx:x.1.gen≠gen)(hp:pre++[x]<+:l):aU gen l=pre:=by
 obtain⟨r,rfl⟩:=hp;unfold aU;rw[JU]
 induction pre with
 |nil=>simp[hx]
 |cons y pre j=>rw[Ka,Mn,G_ (by simpa using h y (by simp)),j (λz t=>h z (by simp[t]))]
end
theorem q8(A:Option Kb)(n c:Nat)(w:j_):H_ h_ 82 #[a_ A n c] w λe w'=>e=k_ (.func (.func 123) #[] #[i_ (c_ ⟨w,0,b_⟩)])/\w'=w.alloc (f_ #[a_ A n c] 24):=by
 go_enter Tryz.func82,Tryz.ntmps82;go_wp2;go_ret;exact⟨rfl,rfl⟩
section
variable{P:Program}{ops:Array Oper}{Q:Exit->Act->j_->Prop}
theorem cA{i:Nat}{o:Oper}{K:Act->j_->Prop}{a:Act}{w:j_}(t:ops[i]?=c_ o)(hw:Region.wanted o (yielded ops a.tmps)=true)(h:∀j:Act->j_->Prop,(∀a w,K a w->j a w)->o.wp P a w j Q):wpOp P ops Q i K a w:=by
 unfold wpOp;simp only[t,hw,Ml];exact .inl (h _ λ_ _ h=>h)
end
def RK(w:j_)(G:Nat->Prop)(k:Nat):Prop:=k=w.heap.size+2\/(k<w.heap.size/\¬G k)
variable{W:j_}{b:Nat}{u0:m_}
theorem dD{u1 u2:m_}{t:Ki}(h:W.heap[b]?=c_ (f_ #[u0,u1,u2] t (0,0))):W.cell? ⟨b,0,b_⟩=c_ u0/\W.cell? ⟨b,1,b_⟩=c_ u1/\W.cell? ⟨b,2,b_⟩=c_ u2:=by
 simp[E_,h]
theorem aL{t:Ki}(h:W.heap[b]?=c_ (f_ #[u0] t (0,0))):W.cell? ⟨b,0,b_⟩=c_ u0/\W.frozen? ⟨b,0,b_⟩=false:=by
 simp[E_,JW,h]
theorem dk{w:j_}{u x:m_}{t:Ki}(h:w.heap[b]?=c_ (f_ #[u] t (0,0))):(w.setCell ⟨b,0,b_⟩ x).heap[b]?=c_ (f_ #[x] t (0,0)):=by
 have j:=F_ h;have D:w.heap[b]=f_ #[u] t (0,0):=by simpa[Kz j]using h
 show(w.heap.modify b _)[b]?=_;rw[Kz (by simpa using j),LF,D];rfl
theorem pJ(A:Option Kb)(l h c:Nat):∃j t,sliced A l h c 1=a_ j (h - l) t:=⟨_,_,rfl⟩
structure CH(w:j_)(pj p gen:Nat)(bv:m_)(bs:List m_)(base log:List (List UInt8))(G:Nat->Prop)(A:Option Kb)(c:Nat)(b:List UInt8)(pre:List (cH b))(W:j_):Prop where
 c0:W.heap[w.heap.size]?=c_ (f_ #[i_ (c_ ⟨pj,0,b_⟩)] 27 (0,0))
 c1:W.heap[w.heap.size+1]?=c_ (f_ #[e_ d_ (bD pre:Nat)] 3 (0,0))
 c2:W.heap[w.heap.size+2]?=c_ (f_ #[a_ A b.length c] 24 (0,0))
 jv:∃lv us G',JV W pj p gen bv lv bs us base (log++dR pre) G'/\∀k,G' k->G k\/w.heap.size+3<=k
 kept:Kept G w W
 same:∀x∈pre,x.1.gen=gen
 size:w.heap.size+3<=W.heap.size
section
variable{w W W':j_}{pj p gen:Nat}{bv:m_}{bs:List m_}{base log:List (List UInt8)}{G:Nat->Prop}{A:Option Kb}{c:Nat}{b:List UInt8}{pre:List (cH b)}
theorem CH.walk(h:CH w pj p gen bv bs base log G A c b pre W)(t:∀k,G k->k<w.heap.size){row:Option Nat}(j:W.grownBy W' row)(hr:∀r,row=c_ r->w.heap.size+3<=r/\∃o:Obj,W.heap[r]?=c_ o/\o.isCells=o_):CH w pj p gen bv bs base log G A c b pre W':=by
 have D:=h.size;have low:∀k,k<w.heap.size+3->W'.heap[k]?=W.heap[k]?:=λk I=>j.block k O_ (λe=>by have:=(hr k e.symm).1;omega)
 obtain⟨lv,us,G',h1,h2⟩:=h.jv;exact⟨(low _ O_).trans h.c0,(low _ O_).trans h.c1,(low _ O_).trans h.c2,⟨lv,us,G',h1.walk j (λr e=>(hr r e).2),h2⟩,h.kept.grown j (λk e=>.inr (by have:=(hr k e).1;omega)),h.same,by have:=j.size;omega⟩
theorem CH.go(h:CH w pj p gen bv bs base log G A c b pre W)(j:n_ W W W'):CH w pj p gen bv bs base log G A c b pre W':=by
 have t:=h.size;obtain⟨lv,us,G',h1,h2⟩:=h.jv;exact⟨(j.block _ O_).trans h.c0,(j.block _ O_).trans h.c1,(j.block _ O_).trans h.c2,⟨lv,us,G',h1.go j,h2⟩,h.kept.trans' (Kept.ar j),h.same,by have:=j.size;omega⟩
end
variable{w X:j_}{v:m_}{n k:Nat}{xs:List m_}
theorem oS(b:List UInt8):∀f i,(kp b f i).length<=f
 |0,_=>by simp[kp]
 |f+1,i=>by
  unfold kp;split
  ·simp
  have:=oS b f;simp;exact this _
theorem jP(b:List UInt8):(dM b).length<=b.length+1:=oS b _ _
theorem Own.qY{base:Nat}{e:Ki}{size:Nat}(h:w.ownsRow base e size v n xs):∃A c,v=a_ A n c:=by
 rcases h.2 with⟨rfl,h0⟩|⟨g,cap,cur,rfl,_⟩
 ·exact⟨b_,0,by rw[h0]⟩
 exact⟨_,cap,rfl⟩
theorem bl{Y:j_}{row:Option Nat}(j:X.grownBy Y row){i:Nat}(hc:X.cell? ⟨k,i,b_⟩=c_ v)(hn:row≠c_ k):Y.cell? ⟨k,i,b_⟩=c_ v:=
 (D_ (a:=⟨k,i,b_⟩) (j.block k (JY _ _ hc) (λe=>hn e.symm))).trans hc
theorem AD(h:w.ownsRow 0 24 1 v n xs){cs:Array m_}{t:Ki}{D:Nat×Nat}(j:w.heap[k]?=c_ (f_ cs t D))(I:t≠24):v.ownBlock≠c_ k:=by
 intro e;rcases h.2 with⟨rfl,_⟩|⟨g,cap,cur,rfl,_,J,_⟩
 ·cases e
 cases e;rw[J]at j;injection j with j;injection j with h1 h2 M;exact I h2.symm
theorem CH.next{W w2 w5:j_}{pj p gen:Nat}{bv M t u2:m_}{bs O:List m_}{base log:List (List UInt8)}{G G1:Nat->Prop}{A:Option Kb}{c:Nat}{b:List UInt8}{pre:List (cH b)}(h:CH w pj p gen bv bs base log G A c b pre W)
  (hG:∀k,G k->k<w.heap.size) (D:JV W pj p gen bv M bs O base (log++dR pre) G1) (I:∀k,G1 k->G k\/w.heap.size+3<=k) (hb:n_ W W X) (av:n_ X X w2) (x:cH b) (hx:x.1.gen=gen)
  (hu:Par.Own w2 X 5 u2 (l_ x.1.aJ)) (o:Obj) (Z:w5.ownsRow 0 24 1 t (O.length+1) (O++[u2])) (hg:(w2.alloc o).grownBy w5 M.ownBlock) (ad:t.ownBlock=M.ownBlock\/t.ownBlock=c_ (w2.heap.size+1)):
  KeepsFrom (w+3) W ((w5.setCell ⟨pj,3,b_⟩ t).setCell ⟨w+1,0,b_⟩ (e_ d_ (x.1.stop:Nat)))/\vl (RK w G) W ((w5.setCell ⟨pj,3,b_⟩ t).setCell ⟨w+1,0,b_⟩ (e_ d_ (x.1.stop:Nat)))/\
   CH w pj p gen bv bs base log G A c b (pre++[x]) ((w5.setCell ⟨pj,3,b_⟩ t).setCell ⟨w+1,0,b_⟩ (e_ d_ (x.1.stop:Nat))):=by
 have hz:=h.size;have ba:=hb.size;have bp:=av.size;have bb:=hg.size;simp only[JQ]at bb;have ak:G1 pj:=D.jJ;have b4:n_ W W (w2.alloc o):=(hb.trans (av.mono ba)).alloc O_ o;have a1:=D.go b4;have bd:O.length=(log++dR pre).length:=by have:=D.jB.1;simpa using this
 rw[bd]at Z;have bf:Par.Own (w2.alloc o) X 5 u2 (l_ x.1.aJ):=hu.alloc o;have a2:=a1.FQ bf (λg e J=>by have:=(hu.lt g e).1;have:=D.lt g J;omega) Z hg (by simpa using ad);obtain⟨oj,bg,bj⟩:=D.EA pj ak;have bk:=D.lt pj ak;have U:∀k,M.ownBlock=c_ k->G1 k/\k≠pj:=λk e=>⟨(D.gl k e).1,(D.gl k e).2.1⟩
 have V:G pj\/w.heap.size+3<=pj:=I pj ak;have n1:pj≠w.heap.size+1:=by rcases V with h1|h1;(have:=hG pj h1;omega);omega
 have same:∀k,k<W.heap.size->k≠pj->k≠w.heap.size+1->M.ownBlock≠c_ k->((w5.setCell ⟨pj,3,b_⟩ t).setCell ⟨w+1,0,b_⟩ (e_ d_ (x.1.stop:Nat))).heap[k]?=W.heap[k]?:=λk j h1 h2 h3=>by
  rw[ab h2,ab h1,hg.block k (by simp;omega) (λe=>h3 e.symm)];exact b4.block k j
 have bt:((w5.setCell ⟨pj,3,b_⟩ t).setCell ⟨w+1,0,b_⟩ (e_ d_ (x.1.stop:Nat))).heap.size=w5.heap.size:=by simp[Kd]
 have low:∀k,k<w.heap.size+3->¬G k->k≠w.heap.size+1->((w5.setCell ⟨pj,3,b_⟩ t).setCell ⟨w+1,0,b_⟩ (e_ d_ (x.1.stop:Nat))).heap[k]?=W.heap[k]?:=λk j hn h1=>by
  refine same k O_ (λe=>?_) h1 (λe=>?_)
  ·subst e;rcases V with h2|h2;exact hn h2;omega
  rcases I k (U k e).1 with h2|h2;exact hn h2;omega
 refine⟨⟨by omega,λk ob hB j hc=>?_⟩,⟨by omega,λk j=>?_⟩,⟨?_,?_,?_,⟨t,O++[u2],λb=>(G1 b/\M.ownBlock≠c_ b)\/u2.ownBlock=c_ b\/t.ownBlock=c_ b,?_,λk j=>?_⟩,?_,λy hy=>?_,by omega⟩⟩
 ·refine(same k (F_ j) (λe=>?_) O_ (λe=>?_)).trans j
  ·subst e;rw[bg]at j;cases j;rw[bj]at hc;cases hc
  obtain⟨o2,bm,bn⟩:=jZ D.jB k e;rw[bm]at j;cases j;rw[bn]at hc;cases hc
 ·rcases j with rfl|⟨j,hn⟩
  ·exact low _ O_ (λJ=>by have:=hG _ J;omega) O_
  exact low k O_ hn O_
 ·exact(low _ O_ (λJ=>by have:=hG _ J;omega) O_).trans h.c0
 ·rw[ir]
  have Y:(w5.setCell ⟨pj,3,b_⟩ t).heap[w.heap.size+1]?=c_ (f_ #[e_ d_ (bD pre:Nat)] 3 (0,0)):=by
   rw[ab (Ne.symm n1),hg.block _ (by simp;omega) (λe=>?_),b4.block _ O_]
   ·exact h.c1
   rcases I _ (U _ e.symm).1 with h2|h2
   ·have:=hG _ h2;omega
   omega
  exact dk Y
 ·exact(low _ O_ (λJ=>by have:=hG _ J;omega) O_).trans h.c2
 ·rw[tt,<-JU]
  refine a2.block λk j=>ab (λ(e:k=w.heap.size+1)=>?_)
  subst e;rcases j with⟨j,-⟩|j|j
  ·rcases I _ j with h2|h2
   ·have:=hG _ h2;omega
   omega
  ·have:=(hu.lt _ j).1;omega
  rcases ad with Y|Y
  ·rcases I _ (U _ (Y▸j)).1 with h2|h2
   ·have:=hG _ h2;omega
   omega
  rw[Y]at j;injection j with j;omega
 ·rcases j with⟨j,-⟩|j|j
  ·exact I k j
  ·right;have:=(hu.lt k j).1;omega
  rcases ad with Y|Y
  ·exact I k (U k (Y▸j)).1
  rw[Y]at j;cases j;right;omega
 ·have bo:Kept G w w5:=(h.kept.trans' (Kept.ar b4)).grown hg (λk e=>by rcases I k (U k e).1 with h2|h2;exact .inl h2;right;omega)
  exact(bo.setCell (p:=⟨pj,3,b_⟩) (by rcases V with h2|h2;exact .inl h2;right;simp;omega) _).setCell (p:=⟨w+1,0,b_⟩) (.inr (by simp)) _
 rcases KI.1 hy with hy|hy
 ·exact h.same y hy
 simp at hy;subst hy;exact hx
def Jq(w:j_){b:List UInt8}(A:Option Kb)(c:Nat)(T:cH b->Nat->Array m_)(x:cH b)(a':Act)(W:j_):Prop:=
 ∃bx,w.heap.size+3<=bx/\a'={tmps:=T x bx,defers:=[]}/\W.heap[bx]?=c_ (f_ #[e_ KW (x.1.gen:Nat),sliced A (x.1.start+12) x.1.stop c 1,e_ d_ (x.1.stop:Nat)] 147 (0,0))
theorem pz(w:j_)(pj p gen:Nat)(bv lv:m_)(bs us:List m_)(base log:List (List UInt8))(G:Nat->Prop)(h:JV w pj p gen bv lv bs us base log G)(A:Option Kb)(c:Nat)(b:List UInt8)
  (hb:a8 (λx=>x<w.heap.size/\¬G x) w (a_ A b.length c) (l_ b)) (hl:b.length<=2000000) (gv:log.length<=100000):
  H_ h_ 44 #[i_ (c_ ⟨pj,0,b_⟩),a_ A b.length c] w λe w'=>∃b3 b5 G',e=k_ (e_ d_ (bD (aU gen (dM b)):Nat))/\JV w' pj p gen bv b3 bs b5 base (log++dR (aU gen (dM b))) G'/\Kept G w w'/\aH w G G':=by
 have hG:=h.lt;obtain⟨W0,bn⟩:=N_ (((w.alloc (f_ #[i_ (c_ ⟨pj,0,b_⟩)] 27)).alloc (f_ #[e_ d_ 0] 3)).alloc (f_ #[a_ A b.length c] 24));have e6:W0.heap.size=w.heap.size+3:=by rw[bn];simp
 have cu:n_ w w W0:=by rw[bn];exact(((ah w _).alloc (by simp) _)).alloc (by simp;omega) _
 have k0:W0.heap[w.heap.size]?=c_ (f_ #[i_ (c_ ⟨pj,0,b_⟩)] 27 (0,0)):=by
  rw[bn,z_ _ _ _ (by simp;omega),z_ _ _ _ (by simp)];exact r_ w _
 have k1:W0.heap[w.heap.size+1]?=c_ (f_ #[e_ d_ 0] 3 (0,0)):=by
  rw[bn,z_ _ _ _ (by simp)];have:=r_ (w.alloc (f_ #[i_ (c_ ⟨pj,0,b_⟩)] 27)) (f_ #[e_ d_ 0] 3);simpa using this
 have k2:W0.heap[w.heap.size+2]?=c_ (f_ #[a_ A b.length c] 24 (0,0)):=by
  rw[bn];have:=r_ ((w.alloc (f_ #[i_ (c_ ⟨pj,0,b_⟩)] 27)).alloc (f_ #[e_ d_ 0] 3)) (f_ #[a_ A b.length c] 24);simpa using this
 have b6:a8 (RK w G) W0 (a_ A b.length c) (l_ b):=hb.ae λx hx=>⟨.inr hx,cu.block x hx.1⟩
 have cv:∀k,RK w G k->k<W0.heap.size:=λk hk=>by rcases hk with rfl|hk<;>omega
 have eb:=Z_ (mX W0 A c b (RK w G) b6 (w+2) (.inl rfl) cv k2 hl);have e7:x_ (CH w pj p gen bv bs base log G A c b [] W0):=Z_ ⟨k0,k1,k2,⟨lv,us,G,by have:=h.go cu;simpa[dR]using this,λk hk=>.inl hk⟩,Kept.ar cu,by simp,by omega⟩;have e8:=Z_ hb;have ec:=Z_ cv;have HG:=Z_ hG;clear k0 k1 k2 b6 cv h hb hG;refine(Kg (n:=7)).1 ?_;refine callsIn_of_wp_marks Tryz.func44 rfl trivial ?_ rfl;simp only[Tryz.ntmps44,KB,Jz,JP,Nat.reduceAdd,Nat.reduceSub,KF,KG,KP,KK,Kl,Ka];gi_wp2_with (refine⟨trivial,?_⟩;gi_at_call 82;refine(Kg.2 (q8 _ _ _ _)).mono ?_;rintro e w1 ⟨rfl,rfl⟩)
 rw[<-bn];clear bn;refine wpIn_rangeFunc_ownH (F:=JK) rfl O_ (gf:=123) (lb:=#[i_ (c_ ⟨w+1+1,0,b_⟩)]) rfl trivial (enters_of Tryz.func123 K_ rfl)
  eb.o (λh k=>h.t k) ?hKb B_ (λ_=>rfl)
  (λpre W=>CH w pj p gen bv bs base log G A c b pre W)
  (λcd xs W=>cd=.exit 0/\∃pre x,xs=pre++[x]/\CH w pj p gen bv bs base log G A c b pre W/\x.1.gen≠gen) ?hI ?hIx e7.o
  (Jq w A c (λ(x:cH b) V=>#[i_ (c_ ⟨pj,0,b_⟩),a_ A b.length c,i_ (c_ ⟨w,0,b_⟩),q_,e_ d_ 0,i_ (c_ ⟨w+1,0,b_⟩),i_ (c_ ⟨V,0,b_⟩),a_ A b.length c,.func (.func 123) #[] #[i_ (c_ ⟨w+1+1,0,b_⟩)],.agg #[e_ KW (x.1.gen:Nat),sliced A (x.1.start+12) x.1.stop c 1,e_ d_ (x.1.stop:Nat)],q_,q_,q_,q_,q_,q_,q_,q_,q_,q_,q_,q_,q_,q_,q_,q_,q_,q_,q_,q_,q_,q_])) ?hAx ?assign ?body ?done ?stop
 case hKb=>
  intro W l o o' hl gp gy gz;exact⟨by simp,λk hk=>World.putObj_heap_other (by have:=ec.o k hk;omega)⟩
 case hI=>
  intro pre X Y row hs hg hr;exact hs.walk HG.o hg (λr e=>⟨by have:=(hr r e).1;omega,(hr r e).2⟩)
 case hIx=>
  rintro cd xs X Y row ⟨h1,pre,x,h2,O,h4⟩ hg hr;exact⟨h1,pre,x,h2,O.walk HG.o hg (λr e=>⟨by have:=(hr r e).1;omega,(hr r e).2⟩),h4⟩
 case hAx=>
  rintro x a' _ X Y row ⟨V,h1,h2,O⟩ hg hr;refine⟨V,h1,h2,(hg.block V (F_ O) (λe=>?_)).trans O⟩;obtain⟨o,ho,hc⟩:=(hr V e.symm).2;rw[O]at ho;cases ho;cases hc
 case assign=>
  intro l pre x W K M J;obtain⟨A5,c5,e5⟩:=pJ A (x.1.start+12) x.1.stop c;have cr:=J {tmps:=#[i_ (c_ ⟨pj,0,b_⟩),a_ A b.length c,i_ (c_ ⟨w,0,b_⟩),q_,e_ d_ 0,i_ (c_ ⟨w+1,0,b_⟩),i_ (c_ ⟨W,0,b_⟩),a_ A b.length c,.func (.func 123) #[] #[i_ (c_ ⟨w+1+1,0,b_⟩)],.agg #[e_ KW (x.1.gen:Nat),a_ A5 (x.1.stop - (x.1.start+12)) c5,e_ d_ (x.1.stop:Nat)],q_,q_,q_,q_,q_,q_,q_,q_,q_,q_,q_,q_,q_,q_,q_,q_,q_,q_,q_,q_,q_,q_],defers:=[]} (W.alloc (f_ #[e_ KW (x.1.gen:Nat),a_ A5 (x.1.stop - (x.1.start+12)) c5,e_ d_ (x.1.stop:Nat)] 147)) ⟨by simp,λk o _ hk _=>(z_ _ _ _ (F_ hk)).trans hk⟩ (vl.below (ah W _) (λk hk=>by have:=ec.o k hk;have:=M.size;omega)) (M.go (ah W _)) ⟨W,M.size,by dsimp only;rw[e5],by rw[e5];exact r_ W _⟩;have HF:=Z_ cr;clear J cr;dsimp only[zS];rw[e5];clear e5;gi_wp2;exact HF.o
 case body=>
  rintro l pre x a' W g2 e9 M ⟨V,g4,rfl,cl⟩ hlen;obtain⟨fb,ee,g5,eg,g6,g7⟩:=dB x.2;have g8:=M.size;have en:bw W W (a_ A b.length c) (l_ b):=(e8.o.ae (S':=λk=>k<w.heap.size) λk hk=>⟨hk.1,M.kept.block k hk.1 hk.2⟩).dH λk hk=>by omega
  obtain⟨-,A5,c5,e5,s5⟩:=lG en (x.1.start+12) x.1.stop O_ O_;rw[show x.1.stop - (x.1.start+12)=x.1.aJ.length by omega]at e5 s5;rw[<-eg]at s5;rw[e5]at cl;dsimp only;rw[e5];obtain⟨x0,eo,fi⟩:=dD cl;obtain⟨p0,-⟩:=aL M.c0;obtain⟨bR,U,G1,cx,bo⟩:=M.jv;obtain⟨⟨j0,j1,j2,j3⟩,fr,fz,bp⟩:=cx.cells;have gi:=Z_ s5;have j:=Z_ cx;have HI:=Z_ M;have ak:=Z_ cl;have ha:=Z_ ee;clear en e5 s5 cx cl fb ee eg M;by_cases hg:x.1.gen=gen
  ·have ev:((x.1.gen:Int) !=(gen:Int))=false:=by simp[hg]
   gi_wp2;refine cV K_ K_ K_ ?_
   repeat (any_goals (first|go_big_quiet_step (fail)|quiet_step (fail)))
   all_goals(refine wpQuiet_nil ?_;intro _ cB;obtain⟨nq,cb⟩:=cB;subst cb)
   gi_wp2;obtain⟨X,hX⟩:=N_ (W.drewN nq);have cm:n_ W W X:=by rw[hX];exact below_drewN (JG _ W) nq
   rw[<-hX];have ba:=Z_ cm;have cE:X.cell? ⟨w,0,b_⟩=c_ (i_ (c_ ⟨pj,0,b_⟩)):=by rw[hX];exact p0
   have cF:X.cell? ⟨V,1,b_⟩=c_ (a_ A5 x.1.aJ.length c5):=by rw[hX];exact eo
   have eA:X.cell? ⟨pj,3,b_⟩=c_ bR:=by rw[hX];exact j3
   have bt:x_ (X.drew.cell? ⟨w,0,b_⟩=c_ (i_ (c_ ⟨pj,0,b_⟩))/\X.drew.cell? ⟨V,1,b_⟩=c_ (a_ A5 x.1.aJ.length c5)):=Z_ ⟨cE,cF⟩;have eC:x_ (H_ h_ 48 #[a_ A5 x.1.aJ.length c5] X.drew λe w2=>∃A2 c2,e=k_ (a_ A2 x.1.aJ.length c2)/\x_ (Par.Own w2 X 5 (a_ A2 x.1.aJ.length c2) (l_ x.1.aJ))/\x_ (n_ X X w2)/\(w2.cell? ⟨w,0,b_⟩=c_ (i_ (c_ ⟨pj,0,b_⟩))/\w2.cell? ⟨V,1,b_⟩=c_ (a_ A5 x.1.aJ.length c5))/\w2.cell? ⟨pj,3,b_⟩=c_ bR):=Z_ (by
    refine(ln _ x.1.aJ X.drew ((gi.o.below cm).more cm.size) O_).mono ?_;rintro e w2 ⟨u2,rfl,e0,gn⟩;obtain⟨A2,c2,e2⟩:=e0.form;rw[t_]at e2;subst e2;have cp:n_ X X w2:=((JG _ X).drew).trans gn;exact⟨A2,c2,rfl,Z_ e0,Z_ cp,⟨(cp.cell (p:=⟨w,0,b_⟩) (JY _ _ cE)).trans cE,(cp.cell (p:=⟨V,1,b_⟩) (JY _ _ cF)).trans cF⟩,(cp.cell (p:=⟨pj,3,b_⟩) (JY _ _ eA)).trans eA⟩)
   obtain⟨NL,cc⟩:=N_ ((log++dR pre).length);have bb:x_ (U.length=NL):=Z_ (by rw[cc];have:=j.o.jB.1;simpa using this);have c6:x_ (NL<=3000000):=Z_ (by rw[cc];have:=jP b;simp[dR];omega);have e3:=Z_ cc;have c7:x_ (bR.ownBlock≠c_ w.heap.size):=Z_ λe=>by rcases bo _ (j.o.gl _ e).1 with h2|h2;(have:=HG.o _ h2;omega);omega
   have c8:x_ (bR.ownBlock≠c_ (w.heap.size+1)):=Z_ λe=>by rcases bo _ (j.o.gl _ e).1 with h2|h2;(have:=HG.o _ h2;omega);omega
   have b0:x_ (bR.ownBlock≠c_ V):=Z_ (AD j.o.jB ak.o (by decide));have b1:x_ (bR.ownBlock≠c_ pj):=Z_ λe=>(j.o.gl _ e).2.1 rfl
   have b2:x_ (V≠pj):=Z_ λe=>by
    have h1:=ak.o;have h2:=j.o.head;rw[e,h2]at h1;injection h1 with h1;injection h1 with h1 O h4;exact absurd O (by decide)
   have c9:x_ (w.heap.size≠pj):=Z_ λe=>by rcases bo _ j.o.jJ with h2|h2;(have:=HG.o _ h2;omega);omega
   have df:x_ (w.heap.size+1≠pj):=Z_ λe=>by rcases bo _ j.o.jJ with h2|h2;(have:=HG.o _ h2;omega);omega
   have cf:=Z_ e6;obtain⟨A1,c1,ct⟩:=Own.qY j.o.jB;rw[<-cc]at ct;have dv:=Z_ hg;clear cc hg;subst ct;clear hX cm ev p0 x0 eo fi j0 j1 j2 j3 fr fz bp;refine gS (S:=λw'=>w'.cell? ⟨w,0,b_⟩=c_ (i_ (c_ ⟨pj,0,b_⟩))/\w'.cell? ⟨V,1,b_⟩=c_ (a_ A5 x.1.aJ.length c5)) K_ K_ (by rintro⟨_,_,h⟩;exact h) ?_;refine Jy (i:=0) (v:=i_ (c_ ⟨pj,0,b_⟩)) rfl K_ K_ K_ (λ_ _ _ h=>h) (Ke ⟨by rfl,λw' hS=>by obtain⟨s0,s1⟩:=hS;go_simp⟩) bt.o ?_;refine Jy (i:=1) (v:=i_ (c_ ⟨pj,0,b_⟩)) rfl K_ K_ K_ (λ_ _ _ h=>h) (Ke ⟨by rfl,λw' hS=>by obtain⟨s0,s1⟩:=hS;go_simp⟩) bt.o ?_;refine Jy (i:=2) (v:=i_ (c_ ⟨pj,0,b_⟩)) rfl K_ K_ K_ (λ_ _ _ h=>h) (Ke ⟨by rfl,λw' hS=>by obtain⟨s0,s1⟩:=hS;go_simp⟩) bt.o ?_;refine Jy (i:=3) (v:=i_ (c_ ⟨pj,3,b_⟩)) rfl K_ K_ K_ (λ_ _ _ h=>h) (Ke ⟨by rfl,λw' hS=>by obtain⟨s0,s1⟩:=hS;go_simp⟩) bt.o ?_;refine Jy (i:=5) (v:=i_ (c_ ⟨V,1,b_⟩)) rfl K_ K_ K_ (λ_ _ _ h=>h) (Ke ⟨by rfl,λw' hS=>by obtain⟨s0,s1⟩:=hS;go_simp⟩) bt.o ?_;refine Jy (i:=6) (v:=a_ A5 x.1.aJ.length c5) rfl K_ K_ K_ (λ_ _ _ h=>h) (Ke ⟨by rfl,λw' hS=>by obtain⟨s0,s1⟩:=hS;go_simp⟩) bt.o ?_;refine K3 (rs:=[4,7]) K_ (by simp) ?_;intro i hi;simp only[JL,Ky,Lw]at hi;rcases hi with rfl|rfl
   ·refine cA rfl rfl (λK J=>?_)
    go_simp;refine J _ _ ⟨bt.o,?_⟩;clear J K;refine ag 7 λK J=>?_
    go_simp;refine eC.o.mono ?_;rintro e w2 ⟨A2,c2,rfl,bB,bd,⟨q0,q1⟩,q3⟩;refine J _ _ ⟨⟨q0,q1⟩,?_⟩;clear J K;have av:=Kn (f_ #[a_ A2 x.1.aJ.length c2] 24) q0;have a1:=Kn (f_ #[a_ A2 x.1.aJ.length c2] 24) q1;have bN:=Kn (f_ #[a_ A2 x.1.aJ.length c2] 24) q3;have B4:x_ (n_ W W (w2.alloc (f_ #[a_ A2 x.1.aJ.length c2] 24))):=Z_ ((ba.o.trans (bd.o.mono ba.o.size)).alloc (by have:=ba.o.size;have:=bd.o.size;omega) _);have a2:Par.Own (w2.alloc (f_ #[a_ A2 x.1.aJ.length c2] 24)) 0 24 (a_ A1 NL c1) U:=by
     have:=(j.o.go B4.o).jB;rw[<-e3.o]at this;unfold Par.Own;rw[bb.o];exact this
    have bO:=Z_ a2;clear a2;refine ag 8 λK J=>?_
    go_simp;refine J _ _ ⟨⟨av,a1⟩,?_⟩;clear J K;refine ag 9 λK J=>?_
    refine gj _ (.tmp 21) (.tmp 25) 22 rfl 0 24 _ j8 (a_ A1 NL c1) U rfl bO.o _ _ [a_ A2 x.1.aJ.length c2] rfl (bw.new w2 24 #[a_ A2 x.1.aJ.length c2] [a_ A2 x.1.aJ.length c2] rfl (by simp[JT])) (λy hy=>by simp at hy;subst hy;rfl) (by have:=bb.o;have:=c6.o;simp only[Jz,JP];omega) (Km _) (λv3 w5 h2 O h4=>?_);have g0:=bl O av (λe=>c7.o e);have g1:=bl O a1 (λe=>b0.o e);have g3:=bl O bN (λe=>b1.o e);have I:x_ (w5.cell? ⟨w,0,b_⟩=c_ (i_ (c_ ⟨pj,0,b_⟩))/\w5.cell? ⟨V,1,b_⟩=c_ (a_ A5 x.1.aJ.length c5)):=Z_ ⟨g0,g1⟩;refine J _ _ ⟨I.o,?_⟩;clear J K;obtain⟨A3,c3,bf⟩:=h2.form;have bg:w5.ownsRow 0 24 1 v3 (U.length+1) (U++[a_ A2 x.1.aJ.length c2]):=by have:=h2;unfold Par.Own at this;rw[p_]at this;exact this
    have cg:=Z_ (HI.o.next HG.o j.o bo ba.o bd.o x dv.o bB.o _ bg O (by simpa using h4));have bj:=O.block pj (by have:=j.o.lt pj j.o.jJ;have:=B4.o.size;omega) (λe=>b1.o e.symm);have bk:w5.heap[pj]?=c_ (f_ #[i_ (c_ ⟨p,0,b_⟩),e_ KW (gen:Nat),bv,a_ A1 NL c1] 95 (0,0)):=bj.trans ((B4.o.block pj (j.o.lt pj j.o.jJ)).trans j.o.head);obtain⟨-,-,-,bp⟩:=dh bk;have Z:w5.heap[V]?=c_ (f_ #[e_ KW (x.1.gen:Nat),a_ A5 x.1.aJ.length c5,e_ d_ (x.1.stop:Nat)] 147 (0,0)):=(O.block V (by have:=F_ ak.o;have:=B4.o.size;omega) (λe=>b0.o e.symm)).trans ((B4.o.block V (F_ ak.o)).trans ak.o);have ad:w5.heap[w.heap.size+1]?=c_ (f_ #[e_ d_ (bD pre:Nat)] 3 (0,0)):=(O.block _ (by have:=HI.o.size;have:=B4.o.size;omega) (λe=>c8.o e.symm)).trans ((B4.o.block _ (by have:=HI.o.size;omega)).trans HI.o.c1);have ch:=Z_ ((ab (a:=⟨pj,3,b_⟩) (x:=v3) b2.o).trans Z);have ck:=Z_ ((ab (a:=⟨pj,3,b_⟩) (x:=v3) df.o).trans ad);clear h2 O h4 bg bj bk Z ad bO bB q0 q1 q3 av a1 bN;have bm:v3=a_ A3 (U.length+1) c3:=by rw[bf,p_];rfl
    clear bf;subst bm;refine Jy (i:=10) (v:=i_ (c_ ⟨pj,0,b_⟩)) rfl K_ K_ K_ (λ_ _ _ h=>h) (Ke ⟨by rfl,λw' hS=>by obtain⟨s0,s1⟩:=hS;go_simp⟩) I.o ?_;refine Jy (i:=11) (v:=i_ (c_ ⟨pj,3,b_⟩)) rfl K_ K_ K_ (λ_ _ _ h=>h) (Ke ⟨by rfl,λw' hS=>by obtain⟨s0,s1⟩:=hS;go_simp⟩) I.o ?_;refine ag 12 λK J=>?_
    go_simp;refine J _ _ ⟨⟨(JA _ _ _ _ (λe=>c9.o (by injection e with e1;exact e1.symm))).trans I.o.1,(JA _ _ _ _ (λe=>b2.o (by injection e with e1;exact e1.symm))).trans I.o.2⟩,?_⟩;clear J K;refine J6 K_ ?_ _;obtain⟨-,-,f2⟩:=dD ch.o;obtain⟨f5,f6⟩:=aL ck.o;clear g0 g1 g3 bp;gi_wp2;have:=cg.o;rw[<-cf.o]at this;exact this
   refine cA rfl rfl (λK J=>?_);go_simp;refine eC.o.mono ?_;rintro e w2 ⟨A2,c2,rfl,bB,bd,⟨q0,q1⟩,q3⟩;refine J _ _ ⟨⟨q0,q1⟩,?_⟩;clear J K;have av:=Kn (f_ #[a_ A2 x.1.aJ.length c2] 24) q0;have a1:=Kn (f_ #[a_ A2 x.1.aJ.length c2] 24) q1;have bN:=Kn (f_ #[a_ A2 x.1.aJ.length c2] 24) q3;have B4:x_ (n_ W W (w2.alloc (f_ #[a_ A2 x.1.aJ.length c2] 24))):=Z_ ((ba.o.trans (bd.o.mono ba.o.size)).alloc (by have:=ba.o.size;have:=bd.o.size;omega) _);have a2:Par.Own (w2.alloc (f_ #[a_ A2 x.1.aJ.length c2] 24)) 0 24 (a_ A1 NL c1) U:=by
    have:=(j.o.go B4.o).jB;rw[<-e3.o]at this;unfold Par.Own;rw[bb.o];exact this
   have bO:=Z_ a2;clear a2;refine K3 (rs:=[4,8]) K_ (by simp) ?_;intro i hi;simp only[JL,Ky,Lw]at hi;rcases hi with rfl|rfl
   ·refine cA rfl rfl (λK J=>?_)
    go_simp;refine J _ _ ⟨⟨q0,q1⟩,?_⟩;clear J K;refine ag 8 λK J=>?_
    go_simp;refine J _ _ ⟨⟨av,a1⟩,?_⟩;clear J K;refine ag 9 λK J=>?_
    refine gj _ (.tmp 21) (.tmp 25) 22 rfl 0 24 _ j8 (a_ A1 NL c1) U rfl bO.o _ _ [a_ A2 x.1.aJ.length c2] rfl (bw.new w2 24 #[a_ A2 x.1.aJ.length c2] [a_ A2 x.1.aJ.length c2] rfl (by simp[JT])) (λy hy=>by simp at hy;subst hy;rfl) (by have:=bb.o;have:=c6.o;simp only[Jz,JP];omega) (Km _) (λv3 w5 h2 O h4=>?_);have g0:=bl O av (λe=>c7.o e);have g1:=bl O a1 (λe=>b0.o e);have g3:=bl O bN (λe=>b1.o e);have I:x_ (w5.cell? ⟨w,0,b_⟩=c_ (i_ (c_ ⟨pj,0,b_⟩))/\w5.cell? ⟨V,1,b_⟩=c_ (a_ A5 x.1.aJ.length c5)):=Z_ ⟨g0,g1⟩;refine J _ _ ⟨I.o,?_⟩;clear J K;obtain⟨A3,c3,bf⟩:=h2.form;have bg:w5.ownsRow 0 24 1 v3 (U.length+1) (U++[a_ A2 x.1.aJ.length c2]):=by have:=h2;unfold Par.Own at this;rw[p_]at this;exact this
    have cg:=Z_ (HI.o.next HG.o j.o bo ba.o bd.o x dv.o bB.o _ bg O (by simpa using h4));have bj:=O.block pj (by have:=j.o.lt pj j.o.jJ;have:=B4.o.size;omega) (λe=>b1.o e.symm);have bk:w5.heap[pj]?=c_ (f_ #[i_ (c_ ⟨p,0,b_⟩),e_ KW (gen:Nat),bv,a_ A1 NL c1] 95 (0,0)):=bj.trans ((B4.o.block pj (j.o.lt pj j.o.jJ)).trans j.o.head);obtain⟨-,-,-,bp⟩:=dh bk;have Z:w5.heap[V]?=c_ (f_ #[e_ KW (x.1.gen:Nat),a_ A5 x.1.aJ.length c5,e_ d_ (x.1.stop:Nat)] 147 (0,0)):=(O.block V (by have:=F_ ak.o;have:=B4.o.size;omega) (λe=>b0.o e.symm)).trans ((B4.o.block V (F_ ak.o)).trans ak.o);have ad:w5.heap[w.heap.size+1]?=c_ (f_ #[e_ d_ (bD pre:Nat)] 3 (0,0)):=(O.block _ (by have:=HI.o.size;have:=B4.o.size;omega) (λe=>c8.o e.symm)).trans ((B4.o.block _ (by have:=HI.o.size;omega)).trans HI.o.c1);have ch:=Z_ ((ab (a:=⟨pj,3,b_⟩) (x:=v3) b2.o).trans Z);have ck:=Z_ ((ab (a:=⟨pj,3,b_⟩) (x:=v3) df.o).trans ad);clear h2 O h4 bg bj bk Z ad bO bB q0 q1 q3 av a1 bN;have bm:v3=a_ A3 (U.length+1) c3:=by rw[bf,p_];rfl
    clear bf;subst bm;refine Jy (i:=10) (v:=i_ (c_ ⟨pj,0,b_⟩)) rfl K_ K_ K_ (λ_ _ _ h=>h) (Ke ⟨by rfl,λw' hS=>by obtain⟨s0,s1⟩:=hS;go_simp⟩) I.o ?_;refine Jy (i:=11) (v:=i_ (c_ ⟨pj,3,b_⟩)) rfl K_ K_ K_ (λ_ _ _ h=>h) (Ke ⟨by rfl,λw' hS=>by obtain⟨s0,s1⟩:=hS;go_simp⟩) I.o ?_;refine ag 12 λK J=>?_
    go_simp;refine J _ _ ⟨⟨(JA _ _ _ _ (λe=>c9.o (by injection e with e1;exact e1.symm))).trans I.o.1,(JA _ _ _ _ (λe=>b2.o (by injection e with e1;exact e1.symm))).trans I.o.2⟩,?_⟩;clear J K;refine J6 K_ ?_ _;obtain⟨-,-,f2⟩:=dD ch.o;obtain⟨f5,f6⟩:=aL ck.o;clear g0 g1 g3 bp;gi_wp2;have:=cg.o;rw[<-cf.o]at this;exact this
   refine cA rfl rfl (λK J=>?_);go_simp;refine J _ _ ⟨⟨av,a1⟩,?_⟩;clear J K;refine ag 4 λK J=>?_
   go_simp;refine J _ _ ⟨⟨av,a1⟩,?_⟩;clear J K;refine ag 9 λK J=>?_
   refine gj _ (.tmp 21) (.tmp 25) 22 rfl 0 24 _ j8 (a_ A1 NL c1) U rfl bO.o _ _ [a_ A2 x.1.aJ.length c2] rfl (bw.new w2 24 #[a_ A2 x.1.aJ.length c2] [a_ A2 x.1.aJ.length c2] rfl (by simp[JT])) (λy hy=>by simp at hy;subst hy;rfl) (by have:=bb.o;have:=c6.o;simp only[Jz,JP];omega) (Km _) (λv3 w5 h2 O h4=>?_);have g0:=bl O av (λe=>c7.o e);have g1:=bl O a1 (λe=>b0.o e);have g3:=bl O bN (λe=>b1.o e);have I:x_ (w5.cell? ⟨w,0,b_⟩=c_ (i_ (c_ ⟨pj,0,b_⟩))/\w5.cell? ⟨V,1,b_⟩=c_ (a_ A5 x.1.aJ.length c5)):=Z_ ⟨g0,g1⟩;refine J _ _ ⟨I.o,?_⟩;clear J K;obtain⟨A3,c3,bf⟩:=h2.form;have bg:w5.ownsRow 0 24 1 v3 (U.length+1) (U++[a_ A2 x.1.aJ.length c2]):=by have:=h2;unfold Par.Own at this;rw[p_]at this;exact this
   have cg:=Z_ (HI.o.next HG.o j.o bo ba.o bd.o x dv.o bB.o _ bg O (by simpa using h4));have bj:=O.block pj (by have:=j.o.lt pj j.o.jJ;have:=B4.o.size;omega) (λe=>b1.o e.symm);have bk:w5.heap[pj]?=c_ (f_ #[i_ (c_ ⟨p,0,b_⟩),e_ KW (gen:Nat),bv,a_ A1 NL c1] 95 (0,0)):=bj.trans ((B4.o.block pj (j.o.lt pj j.o.jJ)).trans j.o.head);obtain⟨-,-,-,bp⟩:=dh bk;have Z:w5.heap[V]?=c_ (f_ #[e_ KW (x.1.gen:Nat),a_ A5 x.1.aJ.length c5,e_ d_ (x.1.stop:Nat)] 147 (0,0)):=(O.block V (by have:=F_ ak.o;have:=B4.o.size;omega) (λe=>b0.o e.symm)).trans ((B4.o.block V (F_ ak.o)).trans ak.o);have ad:w5.heap[w.heap.size+1]?=c_ (f_ #[e_ d_ (bD pre:Nat)] 3 (0,0)):=(O.block _ (by have:=HI.o.size;have:=B4.o.size;omega) (λe=>c8.o e.symm)).trans ((B4.o.block _ (by have:=HI.o.size;omega)).trans HI.o.c1);have ch:=Z_ ((ab (a:=⟨pj,3,b_⟩) (x:=v3) b2.o).trans Z);have ck:=Z_ ((ab (a:=⟨pj,3,b_⟩) (x:=v3) df.o).trans ad);clear h2 O h4 bg bj bk Z ad bO bB q0 q1 q3 av a1 bN;have bm:v3=a_ A3 (U.length+1) c3:=by rw[bf,p_];rfl
   clear bf;subst bm;refine Jy (i:=10) (v:=i_ (c_ ⟨pj,0,b_⟩)) rfl K_ K_ K_ (λ_ _ _ h=>h) (Ke ⟨by rfl,λw' hS=>by obtain⟨s0,s1⟩:=hS;go_simp⟩) I.o ?_;refine Jy (i:=11) (v:=i_ (c_ ⟨pj,3,b_⟩)) rfl K_ K_ K_ (λ_ _ _ h=>h) (Ke ⟨by rfl,λw' hS=>by obtain⟨s0,s1⟩:=hS;go_simp⟩) I.o ?_;refine ag 12 λK J=>?_
   go_simp;refine J _ _ ⟨⟨(JA _ _ _ _ (λe=>c9.o (by injection e with e1;exact e1.symm))).trans I.o.1,(JA _ _ _ _ (λe=>b2.o (by injection e with e1;exact e1.symm))).trans I.o.2⟩,?_⟩;clear J K;refine J6 K_ ?_ _;obtain⟨-,-,f2⟩:=dD ch.o;obtain⟨f5,f6⟩:=aL ck.o;clear g0 g1 g3 bp;gi_wp2;have:=cg.o;rw[<-cf.o]at this;exact this
  have ev:((x.1.gen:Int) !=(gen:Int))=true:=by simp;omega
  gi_wp2;refine cV K_ K_ K_ ?_
  repeat (any_goals (first|go_big_quiet_step (fail)|quiet_step (fail)))
  all_goals(refine wpQuiet_nil ?_;intro _ cB;obtain⟨nq,cb⟩:=cB;subst cb)
  gi_wp2;have hb:=below_drewN (JG W W) nq;exact⟨⟨hb.size,λk o _ hk _=>(hb.block k (F_ hk)).trans hk⟩,rfl,pre,x,rfl,HI.o.go hb,hg⟩
 case done=>
  rintro D ys W hD rfl M J;have c5:W.cell? ⟨w+1,0,b_⟩=c_ (e_ d_ (bD (dM b):Nat)):=by have:=M.c1;simp[E_,this]
  have HE:x_ (aU gen (dM b)=dM b):=Z_ (pF M.same);have HI:=Z_ M;clear M;gi_wp2;refine⟨by simp,.inl ⟨_,_,rfl,run_takeDeferred J,?_⟩⟩;have hY:=HI.o.walk HG.o (grownBy_putObj' W D (.deferred b_)) (λr e=>by cases e;exact⟨by omega,_,J,rfl⟩);obtain⟨b3,b5,G',h1,h2⟩:=hY.jv;refine⟨_,results_tmp rfl _ _ _,b3,b5,G',by rw[HE.o];rfl,by rw[HE.o];exact h1,hY.kept,λk hk=>(h2 k hk).imp id (λh=>by omega)⟩
 rintro D cd xs W hD e4 ⟨rfl,pre,x,rfl,M,hx⟩ J;have c5:W.cell? ⟨w+1,0,b_⟩=c_ (e_ d_ (bD pre:Nat)):=by have:=M.c1;simp[E_,this]
 have HE:x_ (aU gen (dM b)=pre):=Z_ (xt M.same hx e4);have HI:=Z_ M;clear M hx e4;gi_wp2;refine⟨by simp,.inl ⟨_,_,rfl,run_takeDeferred J,?_⟩⟩;have hY:=HI.o.walk HG.o (grownBy_putObj' W D (.deferred b_)) (λr e=>by cases e;exact⟨by omega,_,J,rfl⟩);obtain⟨b3,b5,G',h1,h2⟩:=hY.jv;refine⟨_,results_tmp rfl _ _ _,b3,b5,G',by rw[HE.o];rfl,by rw[HE.o];exact h1,hY.kept,λk hk=>(h2 k hk).imp id (λh=>by omega)⟩
