import Derived.Deep.CutBlock
import Derived.Deep.DeepCutAuto
import Derived.Deep.RegionHeld
import Derived.Test.YtaalbcfpacpgfaaGreatZdY1
import Derived.Test.YtaalbcfpacpgfaaGreatZdXA
set_option linter.all false
set_option maxHeartbeats 16000000
set_option maxRecDepth 100000
open And renaming intro->KM
open Bool renaming false->o_,true->v_
open Go renaming Calls->H_,World->j_,bytesRow->Ms,grownCap->Lv,maxLen->JT,undef->q_
open Go.Ending renaming returned->k_
open Go.IntKind renaming bits->KZ,i64->d_,signed->KQ,u8->KD,wrap->Lg
open Go.Lib renaming byteCells->l_
open Go.Obj renaming cells->f_
open Go.Proofs.Tryz renaming prog->h_
open Go.RowKit renaming Below->n_,Hid->x_,intOf->A_
open Go.Value renaming bool->u_,int->e_,pointer->i_,slice->a_,string->g_
open Option renaming none->b_,some->c_
open Or renaming inl->Ke
namespace Go.Proofs.YtaalbcfpacpgfaaGreat
open Go.RowKit Go.Lib Go.Vfs Go.Par Go.Typ Go.Shelf
def qj(x:Ex):Prop:=x.ty.parts<=1000000000/\pY 1000000000 x.ty/\x.name.size<=1000000000
theorem IA(x:Int)(h0:-9223372036854775808<=x)(h1:x<=9223372036854775807):d_.wrap x=x:=by
 unfold Lg;simp[KQ,KZ];omega
theorem DL{z:Int}{n:Bool}(h:z=1↔n=v_)(j:¬z=1):n=false:=by
 cases n with
 |false=>rfl
 |true=>exact absurd (h.2 rfl) j
theorem uP(xs:List Ex)(cg:∀x∈xs,qj x)(v:Value)(w:j_)(hX:bA (·<w.heap.size) w v xs):H_ h_ 119 #[v] w λe w'=>e=k_ (u_ (aM xs))/\n_ w w w':=by
 obtain⟨A,c,rfl,hc,hm⟩:=hX.form;have dv:xs.length<=9223372036854775807:=by simp only[JT]at hm;omega
 have HX:=Z_ hX;have ch:=Z_ cg;clear hX hc hm cg;by_cases hl:xs.length<=1000
 rotate_left
 ·have M:x_ (aM xs=o_):=Z_ (by unfold aM;rw[JJ hl,KC])
  have g:(1000:Int)<(xs.length:Int):=by omega
  clear hl;go_enter Tryz.func119,Tryz.ntmps119;go_wp2;go_ret;rw[M.o];exact⟨rfl,JG _ _⟩
 have g:¬(1000:Int)<(xs.length:Int):=by omega
 go_enter Tryz.func119,Tryz.ntmps119;go_wp2;clear g
 go_loopw [3] (λiv W=>∃(k:Nat),k<=xs.length/\iv=e_ d_ k/\x_ (∀i,i<k->fc xs i=v_)/\x_ (n_ w w W)) (λiv _=>xs.length - (A_ iv).toNat)
 case atStart=>exact⟨0,by omega,rfl,Z_ λi hi=>by omega,Z_ B_⟩
 obtain⟨k,hk,rfl,HA,HB⟩:=hrel;by_cases bt:k<xs.length
 rotate_left
 ·have ec:k=xs.length:=by omega
  have M:x_ (aM xs=v_):=Z_ (pD hl λi hi=>HA.o i O_);go_wp2;go_ret;rw[M.o];exact⟨rfl,HB.o⟩
 have b0:=HX.o.fl HB.o;obtain⟨b,off,A',c',rfl,hb,ck,ht,x0,x1,x2,x3,x4⟩:=b0.arg bt;have bf:x_ (0<k->wr.cell? ⟨b,off+(k - 1)*5,b_⟩=c_ (g_ (xs.getD (k - 1) xs[k]).name)):=Z_ λh0=>by
  have cm:k - 1<xs.length:=by omega
  obtain⟨b2,c8,_,_,e2,_,_,_,p0,_⟩:=b0.arg cm;injection e2 with e2;injection e2 with eb eo;subst eb eo;rw[s_,w_ cm];exact p0
 have cp:=rf bt;have HF:x_ (fc xs k=o_->aM xs=o_):=Z_ (ny bt);have cr:x_ (fc xs k=v_->∀i,i<k+1->fc xs i=v_):=Z_ λh i hi=>by
  by_cases e:i=k
  ·rw[e];exact h
  exact HA.o i O_
 have b1:=ch.o _ (JB bt);generalize xs.getD (k - 1) xs[k]=P at*;generalize xs[k]=X at*;have bb:=Z_ cp;obtain⟨W2,bx⟩:=N_ (wr.alloc (f_ #[g_ X.name,e_ d_ X.ty.kind,e_ d_ X.ty.num,g_ X.ty.name,a_ A' X.ty.args.length c'] 63));have bg:n_ wr wr W2:=by rw[bx];exact B_.alloc L_ _
 have b3:W2.heap[wr.heap.size]?=c_ (f_ #[g_ X.name,e_ d_ X.ty.kind,e_ d_ X.ty.num,g_ X.ty.name,a_ A' X.ty.args.length c'] 63 (0,0)):=by rw[bx];exact r_ _ _
 have G:x_ (n_ w w W2):=Z_ (HB.o.trans (bg.mono HB.o.size));have ct:=Z_ (ht.fl bg);have cu:=Z_ b1;have cv:=Z_ (λW=>rJ X.name b1.2.2 W);have bB:x_ (∀W,n_ W2 W2 W->H_ h_ 149 #[.agg #[e_ d_ X.ty.kind,e_ d_ X.ty.num,g_ X.ty.name,a_ A' X.ty.args.length c']] W λe w'=>e=k_ (u_ (dn X.ty))/\n_ W W w'):=Z_ λW h=>wQ X.ty _ W (ct.o.fl h) (by have:=cu.o.1;omega) cu.o.2.1
 have bN:x_ (∀W,n_ W2 W2 W->H_ h_ 150 #[.agg #[e_ d_ X.ty.kind,e_ d_ X.ty.num,g_ X.ty.name,a_ A' X.ty.args.length c']] W λe w'=>e=k_ (u_ (bG X.ty))/\n_ W W w'):=Z_ λW h=>uH X.ty _ W (ct.o.fl h)
 have bd:=ao b3;have O:x_ (∀W,n_ W2 W2 W->(W.cell? ⟨wr,0,b_⟩=c_ (g_ X.name)/\W.cell? ⟨wr,1,b_⟩=c_ (e_ d_ X.ty.kind)/\W.cell? ⟨wr,2,b_⟩=c_ (e_ d_ X.ty.num)/\W.cell? ⟨wr,3,b_⟩=c_ (g_ X.ty.name)/\W.cell? ⟨wr,4,b_⟩=c_ (a_ A' X.ty.args.length c'))):=Z_ λW h=>nV ((h.block _ bd).trans b3)
 have cx:x_ (0<k->∀W,n_ W2 W2 W->W.cell? ⟨b,off+(k - 1)*5,b_⟩=c_ (g_ P.name)):=Z_ λh0 W h=>by
  have cF:b<W2:=by have:=bg.size;omega
  exact(h.cell (p:=⟨b,off+(k - 1)*5,b_⟩) cF).trans ((bg.cell (p:=⟨b,off+(k - 1)*5,b_⟩) hb).trans (bf.o h0))
 have Z:x_ (n_ W2 W2 W2.drew):=Z_ (JG W2 _).drew;have c9:X.name.size<=9223372036854775807:=ck;clear ht b0 cp bg b3 b1 bd ck;go_upto_region 7 with fail;rw[<-bx];clear bx x0 x1 x2 x3 x4 bf;obtain⟨j,hj⟩:=N_ (k - 1);rw[<-hj]at cx;have hsub:0<k->(k:Int) - 1=(j:Int):=λh=>by omega
 have b5:0<k->j<xs.length:=λh=>by omega
 have cB:=Z_ hsub;have c6:=Z_ b5;clear hj hsub b5;by_cases bO:k=0
 ·have cE:decide ((0:Int)<(k:Int))=false:=JJ O_
  have bR:=Z_ bO;clear bO;have bj:=Z_ (O.o W2.drew Z.o);refine KE (S:=(λw2:j_=>w2.cell? ⟨wr,0,b_⟩=c_ (g_ X.name)/\w2.cell? ⟨wr,1,b_⟩=c_ (e_ d_ X.ty.kind)/\w2.cell? ⟨wr,2,b_⟩=c_ (e_ d_ X.ty.num)/\w2.cell? ⟨wr,3,b_⟩=c_ (g_ X.ty.name)/\w2.cell? ⟨wr,4,b_⟩=c_ (a_ A' X.ty.args.length c'))) K_ ?_;refine fy 0 18 (i_ (c_ ⟨wr,0,b_⟩)) bj.o ?_;refine fy 1 19 (g_ X.name) bj.o ?_;refine ag 2 λK hK=>?_
  go_simp;refine(cv.o W2.drew).mono ?_;rintro e w3 ⟨z,rfl,hz,bk⟩;have I:=Z_ (Z.o.trans (bk.mono Z.o.size));have ad:=Z_ hz;have t:=Z_ (O.o w3 I.o);clear bk hz;refine kk hK t.o ?_;by_cases J:z=1
  rotate_left
  ·have b6:(z !=1)=true:=by simp[J]
   have cb:=Z_ J;clear J;refine fy 3 21 (u_ v_) t.o ?_;refine fy 4 22 (u_ v_) t.o ?_;refine bI 5 23 q_ t.o ?_;refine bI 6 24 q_ t.o ?_;refine bI 7 25 q_ t.o ?_;refine bI 8 26 q_ t.o ?_;refine fy 9 27 (u_ v_) t.o ?_;refine fy 10 28 (u_ v_) t.o ?_;refine bI 11 29 q_ t.o ?_;refine bI 12 30 q_ t.o ?_;refine bI 13 31 q_ t.o ?_;refine bI 14 32 q_ t.o ?_;refine bI 15 33 q_ t.o ?_;refine bI 16 34 q_ t.o ?_;refine bI 17 35 q_ t.o ?_;refine bI 18 36 q_ t.o ?_;refine bI 19 37 q_ t.o ?_;refine bI 20 38 q_ t.o ?_;refine bI 21 39 q_ t.o ?_;refine bI 22 40 q_ t.o ?_;refine bI 23 41 q_ t.o ?_;refine fy 24 42 (u_ v_) t.o ?_;refine fy 25 43 (u_ v_) t.o ?_;refine bI 26 44 q_ t.o ?_;refine bI 27 45 q_ t.o ?_;refine bI 28 46 q_ t.o ?_;refine bI 29 47 q_ t.o ?_;refine fy 30 48 (u_ v_) t.o ?_;refine fy 31 49 (u_ v_) t.o ?_;refine bI 32 50 q_ t.o ?_;refine bI 33 51 q_ t.o ?_;refine bI 34 52 q_ t.o ?_;refine bI 35 53 q_ t.o ?_;refine fy 36 54 (u_ v_) t.o ?_;refine J6 K_ ?_ _;have M:x_ (aM xs=o_):=Z_ (HF.o (by rw[bb.o];unfold yD;rw[DL ad.o cb.o,LA,KC]));go_wp2;go_ret;rw[M.o];exact⟨rfl,G.o.trans (I.o.mono G.o.size)⟩
  have bm:x_ (aY X.name.data.toList=v_):=Z_ (ad.o.1 J);have b6:(z !=1)=false:=by simp[J]
  clear J ad;refine fy 3 21 (u_ o_) t.o ?_;refine fy 4 22 (u_ o_) t.o ?_;refine fy 5 23 (i_ (c_ ⟨wr,0,b_⟩)) t.o ?_;refine fy 6 24 (g_ X.name) t.o ?_;refine fy 7 25 (e_ d_ X.name.size) t.o ?_;by_cases h1:X.name.size<=255
  rotate_left
  ·have cc:(255:Int)<(X.name.size:Int):=by omega
   have cd:=Z_ h1;clear h1;refine fy 8 26 (u_ v_) t.o ?_;refine fy 9 27 (u_ v_) t.o ?_;refine fy 10 28 (u_ v_) t.o ?_;refine bI 11 29 q_ t.o ?_;refine bI 12 30 q_ t.o ?_;refine bI 13 31 q_ t.o ?_;refine bI 14 32 q_ t.o ?_;refine bI 15 33 q_ t.o ?_;refine bI 16 34 q_ t.o ?_;refine bI 17 35 q_ t.o ?_;refine bI 18 36 q_ t.o ?_;refine bI 19 37 q_ t.o ?_;refine bI 20 38 q_ t.o ?_;refine bI 21 39 q_ t.o ?_;refine bI 22 40 q_ t.o ?_;refine bI 23 41 q_ t.o ?_;refine fy 24 42 (u_ v_) t.o ?_;refine fy 25 43 (u_ v_) t.o ?_;refine bI 26 44 q_ t.o ?_;refine bI 27 45 q_ t.o ?_;refine bI 28 46 q_ t.o ?_;refine bI 29 47 q_ t.o ?_;refine fy 30 48 (u_ v_) t.o ?_;refine fy 31 49 (u_ v_) t.o ?_;refine bI 32 50 q_ t.o ?_;refine bI 33 51 q_ t.o ?_;refine bI 34 52 q_ t.o ?_;refine bI 35 53 q_ t.o ?_;refine fy 36 54 (u_ v_) t.o ?_;refine J6 K_ ?_ _;have M:x_ (aM xs=o_):=Z_ (HF.o (by rw[bb.o];unfold yD;rw[JJ cd.o,KC,KC]));go_wp2;go_ret;rw[M.o];exact⟨rfl,G.o.trans (I.o.mono G.o.size)⟩
  have cf:x_ (yD X=v_):=Z_ (by unfold yD;rw[JR h1,bm.o,Lk]);have cc:¬(255:Int)<(X.name.size:Int):=by omega
  clear h1 bm;have ak:x_ (fc xs k=ku X):=Z_ (by rw[bb.o,cf.o,JR bR.o];rfl);refine fy 8 26 (u_ o_) t.o ?_;refine fy 9 27 (u_ o_) t.o ?_;refine fy 10 28 (u_ o_) t.o ?_;refine fy 11 29 (e_ d_ k) t.o ?_;refine ki (i:=12) (s:=30) (v:=u_ o_) rfl rfl K_ K_ K_ (λ_ _ _ h=>h) (Or.inl ⟨by rfl,λw' hS=>by obtain⟨s0,s1,s2,s3,s4⟩:=hS;go_simp;exact bR.o⟩) t.o ?_;try simp only[JE,J0,J3]
  refine fy 13 31 (u_ o_) t.o ?_;refine bI 14 32 q_ t.o ?_;refine bI 15 33 q_ t.o ?_;refine bI 16 34 q_ t.o ?_;refine bI 17 35 q_ t.o ?_;refine bI 18 36 q_ t.o ?_;refine bI 19 37 q_ t.o ?_;refine bI 20 38 q_ t.o ?_;refine bI 21 39 q_ t.o ?_;refine bI 22 40 q_ t.o ?_;refine fy 23 41 (u_ o_) t.o ?_;refine fy 24 42 (u_ o_) t.o ?_;refine fy 25 43 (u_ o_) t.o ?_;obtain⟨cl,av⟩:=N_ (dn X.ty);rw[<-av]at bB;have U:=Z_ av;clear av;refine fy 26 44 (i_ (c_ ⟨wr,1,b_⟩)) t.o ?_;refine fy 27 45 (.agg #[e_ d_ X.ty.kind,e_ d_ X.ty.num,g_ X.ty.name,a_ A' X.ty.args.length c']) t.o ?_;refine ag 28 λK hK=>?_
  go_simp;refine(bB.o w3 I.o).mono ?_;rintro e w5 ⟨rfl,bn⟩;have HB5:=Z_ (I.o.trans (bn.mono I.o.size));have D:=Z_ (O.o w5 HB5.o);clear bn;refine kk hK D.o ?_;refine fy 29 47 (u_ (!cl)) D.o ?_;refine fy 30 48 (u_ (!cl)) D.o ?_;refine fy 31 49 (u_ (!cl)) D.o ?_;cases cl with
  |false=>
   refine bI 32 50 q_ D.o ?_;refine bI 33 51 q_ D.o ?_;refine bI 34 52 q_ D.o ?_;refine bI 35 53 q_ D.o ?_;refine fy 36 54 (u_ v_) D.o ?_;refine J6 K_ ?_ _;have M:x_ (aM xs=o_):=Z_ (HF.o (by rw[ak.o];unfold ku;rw[<-U.o,KC]));go_wp2;go_ret;rw[M.o];exact⟨rfl,G.o.trans (HB5.o.mono G.o.size)⟩
  |true=>
   obtain⟨sm,a1⟩:=N_ (bG X.ty);rw[<-a1]at bN;have V:=Z_ a1;clear a1;refine fy 32 50 (i_ (c_ ⟨wr,1,b_⟩)) D.o ?_;refine fy 33 51 (.agg #[e_ d_ X.ty.kind,e_ d_ X.ty.num,g_ X.ty.name,a_ A' X.ty.args.length c']) D.o ?_;refine ag 34 λK hK=>?_
   go_simp;refine(bN.o w5 HB5.o).mono ?_;rintro e w6 ⟨rfl,bo⟩;have HB6:=Z_ (HB5.o.trans (bo.mono HB5.o.size));have a2:=Z_ (O.o w6 HB6.o);clear bo;refine kk hK a2.o ?_;refine fy 35 53 (u_ (!sm)) a2.o ?_;refine fy 36 54 (u_ (!sm)) a2.o ?_;refine J6 K_ ?_ _;have Y:=Z_ (G.o.trans (HB6.o.mono G.o.size));cases sm with
   |false=>
    have M:x_ (aM xs=o_):=Z_ (HF.o (by rw[ak.o];unfold ku;rw[<-V.o,LA]));go_wp2;go_ret;rw[M.o];exact⟨rfl,Y.o⟩
   |true=>
    have HN:=Z_ (cr.o (by rw[ak.o];unfold ku;rw[<-V.o,<-U.o];rfl));go_wp2;go_roundw
    case rel=>exact⟨k+1,by omega,by go_num,HN,Y⟩
    simp[A_];omega
 have cE:decide ((0:Int)<(k:Int))=true:=JR O_;have ee:(k:Int) - 1=(j:Int):=cB.o O_;have b5:j<xs.length:=c6.o O_;have eg:((j:Nat):Int)<(xs.length:Int):=by omega
 have c7:0<k:=by omega
 have bR:=Z_ bO;clear bO;have ba:=Z_ (cx.o c7);have bj:=Z_ (KM (ba.o W2.drew Z.o) (O.o W2.drew Z.o));refine KE (S:=(λw2:j_=>w2.cell? ⟨b,off+j*5,b_⟩=c_ (g_ P.name)/\w2.cell? ⟨wr,0,b_⟩=c_ (g_ X.name)/\w2.cell? ⟨wr,1,b_⟩=c_ (e_ d_ X.ty.kind)/\w2.cell? ⟨wr,2,b_⟩=c_ (e_ d_ X.ty.num)/\w2.cell? ⟨wr,3,b_⟩=c_ (g_ X.ty.name)/\w2.cell? ⟨wr,4,b_⟩=c_ (a_ A' X.ty.args.length c'))) K_ ?_;refine gx 0 18 (i_ (c_ ⟨wr,0,b_⟩)) bj.o ?_;refine gx 1 19 (g_ X.name) bj.o ?_;refine ag 2 λK hK=>?_
 go_simp;refine(cv.o W2.drew).mono ?_;rintro e w3 ⟨z,rfl,hz,bk⟩;have I:=Z_ (Z.o.trans (bk.mono Z.o.size));have ad:=Z_ hz;have t:=Z_ (KM (ba.o w3 I.o) (O.o w3 I.o));clear bk hz;refine kk hK t.o ?_;by_cases J:z=1
 rotate_left
 ·have b6:(z !=1)=true:=by simp[J]
  have cb:=Z_ J;clear J;refine gx 3 21 (u_ v_) t.o ?_;refine gx 4 22 (u_ v_) t.o ?_;refine bI 5 23 q_ t.o ?_;refine bI 6 24 q_ t.o ?_;refine bI 7 25 q_ t.o ?_;refine bI 8 26 q_ t.o ?_;refine gx 9 27 (u_ v_) t.o ?_;refine gx 10 28 (u_ v_) t.o ?_;refine bI 11 29 q_ t.o ?_;refine bI 12 30 q_ t.o ?_;refine bI 13 31 q_ t.o ?_;refine bI 14 32 q_ t.o ?_;refine bI 15 33 q_ t.o ?_;refine bI 16 34 q_ t.o ?_;refine bI 17 35 q_ t.o ?_;refine bI 18 36 q_ t.o ?_;refine bI 19 37 q_ t.o ?_;refine bI 20 38 q_ t.o ?_;refine bI 21 39 q_ t.o ?_;refine bI 22 40 q_ t.o ?_;refine bI 23 41 q_ t.o ?_;refine gx 24 42 (u_ v_) t.o ?_;refine gx 25 43 (u_ v_) t.o ?_;refine bI 26 44 q_ t.o ?_;refine bI 27 45 q_ t.o ?_;refine bI 28 46 q_ t.o ?_;refine bI 29 47 q_ t.o ?_;refine gx 30 48 (u_ v_) t.o ?_;refine gx 31 49 (u_ v_) t.o ?_;refine bI 32 50 q_ t.o ?_;refine bI 33 51 q_ t.o ?_;refine bI 34 52 q_ t.o ?_;refine bI 35 53 q_ t.o ?_;refine gx 36 54 (u_ v_) t.o ?_;refine J6 K_ ?_ _;have M:x_ (aM xs=o_):=Z_ (HF.o (by rw[bb.o];unfold yD;rw[DL ad.o cb.o,LA,KC]));go_wp2;go_ret;rw[M.o];exact⟨rfl,G.o.trans (I.o.mono G.o.size)⟩
 have bm:x_ (aY X.name.data.toList=v_):=Z_ (ad.o.1 J);have b6:(z !=1)=false:=by simp[J]
 clear J ad;refine gx 3 21 (u_ o_) t.o ?_;refine gx 4 22 (u_ o_) t.o ?_;refine gx 5 23 (i_ (c_ ⟨wr,0,b_⟩)) t.o ?_;refine gx 6 24 (g_ X.name) t.o ?_;refine gx 7 25 (e_ d_ X.name.size) t.o ?_;by_cases h1:X.name.size<=255
 rotate_left
 ·have cc:(255:Int)<(X.name.size:Int):=by omega
  have cd:=Z_ h1;clear h1;refine gx 8 26 (u_ v_) t.o ?_;refine gx 9 27 (u_ v_) t.o ?_;refine gx 10 28 (u_ v_) t.o ?_;refine bI 11 29 q_ t.o ?_;refine bI 12 30 q_ t.o ?_;refine bI 13 31 q_ t.o ?_;refine bI 14 32 q_ t.o ?_;refine bI 15 33 q_ t.o ?_;refine bI 16 34 q_ t.o ?_;refine bI 17 35 q_ t.o ?_;refine bI 18 36 q_ t.o ?_;refine bI 19 37 q_ t.o ?_;refine bI 20 38 q_ t.o ?_;refine bI 21 39 q_ t.o ?_;refine bI 22 40 q_ t.o ?_;refine bI 23 41 q_ t.o ?_;refine gx 24 42 (u_ v_) t.o ?_;refine gx 25 43 (u_ v_) t.o ?_;refine bI 26 44 q_ t.o ?_;refine bI 27 45 q_ t.o ?_;refine bI 28 46 q_ t.o ?_;refine bI 29 47 q_ t.o ?_;refine gx 30 48 (u_ v_) t.o ?_;refine gx 31 49 (u_ v_) t.o ?_;refine bI 32 50 q_ t.o ?_;refine bI 33 51 q_ t.o ?_;refine bI 34 52 q_ t.o ?_;refine bI 35 53 q_ t.o ?_;refine gx 36 54 (u_ v_) t.o ?_;refine J6 K_ ?_ _;have M:x_ (aM xs=o_):=Z_ (HF.o (by rw[bb.o];unfold yD;rw[JJ cd.o,KC,KC]));go_wp2;go_ret;rw[M.o];exact⟨rfl,G.o.trans (I.o.mono G.o.size)⟩
 have cf:x_ (yD X=v_):=Z_ (by unfold yD;rw[JR h1,bm.o,Lk]);have cc:¬(255:Int)<(X.name.size:Int):=by omega
 clear h1 bm;have bp:x_ (fc xs k=(Gt P.name X.name&&ku X)):=Z_ (by rw[bb.o,cf.o,JJ bR.o];rfl);obtain⟨lb,bd⟩:=N_ (Gt P.name X.name);have df:Op.bytesLess P.name.toList X.name.toList=lb:=bd.symm;rw[<-bd]at bp;clear bd;refine gx 8 26 (u_ o_) t.o ?_;refine gx 9 27 (u_ o_) t.o ?_;refine gx 10 28 (u_ o_) t.o ?_;refine gx 11 29 (e_ d_ k) t.o ?_;refine gx 12 30 (u_ v_) t.o ?_;refine gx 13 31 (u_ v_) t.o ?_;refine gx 14 32 (a_ (c_ ⟨b,off,b_⟩) xs.length c) t.o ?_;refine gx 15 33 (e_ d_ k) t.o ?_;refine ki (i:=16) (s:=34) (v:=e_ d_ j) rfl rfl K_ K_ K_ (λ_ _ _ h=>h) (Or.inl ⟨by rfl,λw' hS=>by obtain⟨s0,s1,s2,s3,s4,s5⟩:=hS;go_simp;exact IA _ O_ O_⟩) t.o ?_;try simp only[JE,J0,J3]
 refine gx 17 35 (i_ (c_ ⟨b,off+j*5,b_⟩)) t.o ?_;refine gx 18 36 (i_ (c_ ⟨b,off+j*5,b_⟩)) t.o ?_;refine gx 19 37 (g_ P.name) t.o ?_;refine gx 20 38 (i_ (c_ ⟨wr,0,b_⟩)) t.o ?_;refine gx 21 39 (g_ X.name) t.o ?_;refine gx 22 40 (u_ (!lb)) t.o ?_;refine gx 23 41 (u_ (!lb)) t.o ?_;refine gx 24 42 (u_ (!lb)) t.o ?_;refine gx 25 43 (u_ (!lb)) t.o ?_;cases lb with
 |false=>
  refine bI 26 44 q_ t.o ?_;refine bI 27 45 q_ t.o ?_;refine bI 28 46 q_ t.o ?_;refine bI 29 47 q_ t.o ?_;refine gx 30 48 (u_ v_) t.o ?_;refine gx 31 49 (u_ v_) t.o ?_;refine bI 32 50 q_ t.o ?_;refine bI 33 51 q_ t.o ?_;refine bI 34 52 q_ t.o ?_;refine bI 35 53 q_ t.o ?_;refine gx 36 54 (u_ v_) t.o ?_;refine J6 K_ ?_ _;have M:x_ (aM xs=o_):=Z_ (HF.o (by rw[bp.o,KC]));go_wp2;go_ret;rw[M.o];exact⟨rfl,G.o.trans (I.o.mono G.o.size)⟩
 |true=>
  have ak:x_ (fc xs k=ku X):=Z_ (by rw[bp.o,Lk]);obtain⟨cl,av⟩:=N_ (dn X.ty);rw[<-av]at bB;have U:=Z_ av;clear av;refine gx 26 44 (i_ (c_ ⟨wr,1,b_⟩)) t.o ?_;refine gx 27 45 (.agg #[e_ d_ X.ty.kind,e_ d_ X.ty.num,g_ X.ty.name,a_ A' X.ty.args.length c']) t.o ?_;refine ag 28 λK hK=>?_
  go_simp;refine(bB.o w3 I.o).mono ?_;rintro e w5 ⟨rfl,bn⟩;have HB5:=Z_ (I.o.trans (bn.mono I.o.size));have D:=Z_ (KM (ba.o w5 HB5.o) (O.o w5 HB5.o));clear bn;refine kk hK D.o ?_;refine gx 29 47 (u_ (!cl)) D.o ?_;refine gx 30 48 (u_ (!cl)) D.o ?_;refine gx 31 49 (u_ (!cl)) D.o ?_;cases cl with
  |false=>
   refine bI 32 50 q_ D.o ?_;refine bI 33 51 q_ D.o ?_;refine bI 34 52 q_ D.o ?_;refine bI 35 53 q_ D.o ?_;refine gx 36 54 (u_ v_) D.o ?_;refine J6 K_ ?_ _;have M:x_ (aM xs=o_):=Z_ (HF.o (by rw[ak.o];unfold ku;rw[<-U.o,KC]));go_wp2;go_ret;rw[M.o];exact⟨rfl,G.o.trans (HB5.o.mono G.o.size)⟩
  |true=>
   obtain⟨sm,a1⟩:=N_ (bG X.ty);rw[<-a1]at bN;have V:=Z_ a1;clear a1;refine gx 32 50 (i_ (c_ ⟨wr,1,b_⟩)) D.o ?_;refine gx 33 51 (.agg #[e_ d_ X.ty.kind,e_ d_ X.ty.num,g_ X.ty.name,a_ A' X.ty.args.length c']) D.o ?_;refine ag 34 λK hK=>?_
   go_simp;refine(bN.o w5 HB5.o).mono ?_;rintro e w6 ⟨rfl,bo⟩;have HB6:=Z_ (HB5.o.trans (bo.mono HB5.o.size));have a2:=Z_ (KM (ba.o w6 HB6.o) (O.o w6 HB6.o));clear bo;refine kk hK a2.o ?_;refine gx 35 53 (u_ (!sm)) a2.o ?_;refine gx 36 54 (u_ (!sm)) a2.o ?_;refine J6 K_ ?_ _;have Y:=Z_ (G.o.trans (HB6.o.mono G.o.size));cases sm with
   |false=>
    have M:x_ (aM xs=o_):=Z_ (HF.o (by rw[ak.o];unfold ku;rw[<-V.o,LA]));go_wp2;go_ret;rw[M.o];exact⟨rfl,Y.o⟩
   |true=>
    have HN:=Z_ (cr.o (by rw[ak.o];unfold ku;rw[<-V.o,<-U.o];rfl));go_wp2;go_roundw
    case rel=>exact⟨k+1,by omega,by go_num,HN,Y⟩
    simp[A_];omega
theorem nX(s:ByteArray)(w:j_)(hs:s.size<=2147483648):∃cap j,(convert 9 24 (g_ s)).run h_ w=.ok (a_ (c_ ⟨w,0,b_⟩) s.size cap) j/\bw j (w+1) (a_ (c_ ⟨w,0,b_⟩) s.size cap) (l_ s.data.toList)/\n_ w w j/\j.heap.size=w.heap.size+1:=by
 have t:=grownCap_ge w s.size 0 5;have hle:=grownCap_le_maxLen w s.size 0 5 (by unfold JT;omega);have D:s.data.toList.length=s.size:=by rw[Ko];rfl
 refine⟨_,_,run_bytes_of_string (P:=h_) w 9 24 5 s KH J9 Tryz.underlying5,?_,(JG _ w).drew.alloc (by simp) _,by simp⟩;refine⟨_,_,by rw[t_,D],by rw[t_,D];exact t,hle,λh0=>⟨w,0,rfl,by omega,λi hi=>?_⟩⟩;rw[t_,D]at hi;have I:(w.drew.alloc (f_ (Ms s (Lv w s.size 0 5)) 5 ((Ms s (Lv w s.size 0 5)).size,(Ms s (Lv w s.size 0 5)).size+1))).heap[w.heap.size]?=c_ (f_ (Ms s (Lv w s.size 0 5)) 5 ((Ms s (Lv w s.size 0 5)).size,(Ms s (Lv w s.size 0 5)).size+1)):=r_ w.drew _;have h1:(Ms s (Lv w s.size 0 5))[i]?=(l_ s.data.toList)[i]?:=by
  unfold Ms;rw[Array.getElem?_append_left (by rw[Array.size_map];exact hi)];have G:i<s.data.size:=hi;simp[l_,G]
 rw[Lp,<-h1];simp only[World.cell?,I];rfl
theorem pk(B:Nat)(s:ByteArray)(bs:List UInt8)(bv:Value)(w:j_)(hB:B<=w)(Z:Par.Own w B 5 bv (l_ bs))(hs:s.size<=255)(hl:bs.length<=2000000000):
  H_ h_ 121 #[bv,g_ s] w λe w'=>∃v',e=k_ v'/\Par.Own w' B 5 v' (l_ (bs++([s.size.toUInt8]++s.data.toList)))/\Gr w w' bv v':=by
 obtain⟨Am,cm,rfl⟩:=Z.form;rw[t_]at Z⊢;have ad:x_ (WS B w (a_ Am bs.length cm) bs (a_ Am bs.length cm) w):=Z_ ⟨Z,Gr.refl _ _⟩;have bb:KD.wrap (s.size:Int)=(s.size:Int):=by unfold Lg;simp[KQ,KZ];omega
 have K:=mC w s.size O_;have M:∀o,Par.Own (w.alloc o) B 5 (a_ Am bs.length cm) (l_ bs):=λo=>Z.alloc o
 go_enter Tryz.func121,Tryz.ntmps121;go_upto_region 2 with(at_builtin;refine aE _ rfl _ _ _ rfl B 5 _ jb _ _ rfl (M _) _ _ _ rfl K (aZ _) ?c1 ?c2 ?_)
 case c1=>rw[t_];simp[l_];omega
 case c2=>simp;omega
 intro v3 w3 G ak O;have j:=WS.app (xs:=[s.size.toUInt8]) ad.o G ak (by rw[JQ];exact O);obtain⟨t,D⟩:=N_ (bs++[s.size.toUInt8]);have bj:t.length<=bs.length+1:=by rw[D];simp
 rw[<-D]at j;obtain⟨A3,c3,rfl⟩:=j.form;obtain⟨cap,w4,bd,U,X,bf⟩:=nX s w3 O_;have bk:s.data.toList.length=s.size:=by rw[Ko];rfl
 have Y:Par.Own w4 B 5 (a_ A3 t.length c3) (l_ t):=j.own.below X;have av:x_ (WS B w (a_ Am bs.length cm) t (a_ A3 t.length c3) w4):=Z_ ⟨Y,j.gr.trans (Gr.ar X _)⟩;have bm:B<=w4:=by have:=j.gr.1.size;omega
 have a1:x_ (bs++([s.size.toUInt8]++s.data.toList)=t++s.data.toList):=Z_ (by rw[D,JU]);have bg:=Z_ Y;have a2:=Z_ U;clear G ak O j K M bb D X bf Y U Z ad;go_wp2_with (at_builtin;refine aE _ rfl _ _ _ rfl B 5 _ jb _ _ rfl bg.o _ _ _ rfl a2.o (aZ _) ?c1 ?c2 ?_)
 case c1=>rw[t_,t_];omega
 case c2=>omega
 intro v5 w5 I ba V;have J:=WS.Gb (xs:=s.data.toList) av.o I ba V;have HE:x_ (Par.Own w5 B 5 v5 (l_ (bs++([s.size.toUInt8]++s.data.toList)))/\Gr w w5 (a_ Am bs.length cm) v5):=Z_ ⟨by rw[a1.o];exact J.own,J.gr⟩;clear J I ba V bd;go_wp2;go_ret;exact⟨_,rfl,HE.o.1,HE.o.2⟩
theorem yL(B:Nat)(T:Ty):∀(bs:List UInt8) (bv v:Value) (w:j_),B<=w.heap.size->aG (·<B) w v T->Par.Own w B 5 bv (l_ bs)->fR T->bG T=v_->bs.length+300*T.parts<=2000000000->
  H_ h_ 120 #[bv,v] w λe w'=>∃v',e=k_ v'/\Par.Own w' B 5 v' (l_ (bs++gM T))/\Gr w w' bv v':=by
 induction T using Ty.ind with
 |h T ih=>
  intro bs bv v w hB hT hO hF hS hp;have IH:=Z_ ih;clear ih;obtain⟨A,c,rfl,hc,hm,hn⟩:=hT.form;obtain⟨Am,cm,rfl⟩:=hO.form;rw[t_]at hO⊢;obtain⟨W1,X⟩:=N_ (w.alloc (f_ #[e_ d_ T.kind,e_ d_ T.num,g_ T.name,a_ A T.args.length c] 61));have bk:n_ w w W1:=by rw[X];exact B_.alloc L_ _
  have bO:W1.heap[w.heap.size]?=c_ (f_ #[e_ d_ T.kind,e_ d_ T.num,g_ T.name,a_ A T.args.length c] 61 (0,0)):=by rw[X];exact r_ _ _
  have b2:W1.heap.size=w.heap.size+1:=by rw[X];simp
  have b3:aG (·<B) W1 (cn T.kind T.num T.name A T.args.length c) T:=hT.ae λg hg=>⟨hg,bk.block g O_⟩
  have bR:=hO.below bk;have ee:=Z_ bO;have HP:=Z_ hp;have fr:=Z_ b2;have eg:=Z_ b3;have b5:=Z_ bk;have HB:=Z_ hB;have en:=Z_ hF;have b6:=Z_ hS;have cb:x_ (∀g,(a_ Am bs.length cm).ownBlock=c_ g->B<=g/\g<w.heap.size):=Z_ hO.lt;obtain⟨y0,y1,y2,y3⟩:=aX bO;have cc:=gI hS;have fz:=kV hS;have gi:=T.dX;have cd:=hF.self;clear hT bO hp b3 bk hc hm hn hO hF hS;unfold cn;obtain⟨Y,a1,gn,gp⟩:∃Y:Nat,T.kind=(Y:Int)/\1<=Y/\Y<=4:=by
   obtain⟨k,n,s,ts⟩:=T;rcases eu cd with⟨h,_⟩|⟨h,_⟩|⟨h,_⟩|⟨h,_⟩
   ·exact⟨1,h,by omega,by omega⟩
   ·exact⟨2,h,by omega,by omega⟩
   ·exact⟨3,h,by omega,by omega⟩
   exact⟨4,h,by omega,by omega⟩
  have b0:x_ (WS B W1 (a_ Am bs.length cm) bs (a_ Am bs.length cm) W1):=Z_ ⟨bR,Gr.refl _ _⟩;have eo:KD.wrap (Y:Int)=(Y:Int):=by unfold Lg;simp[KQ,KZ];omega
  have cf:=mC W1 Y O_;have bm:∀o,Par.Own (W1.alloc o) B 5 (a_ Am bs.length cm) (l_ bs):=λo=>bR.alloc o
  have gv:bs.length<=2000000000:=by have:=HP.o;omega
  have ev:B<=W1:=by have:=HB.o;omega
  have U:x_ (∀cur sv W,WS B W1 (a_ Am bs.length cm) cur sv W->W.heap[w.heap.size]?=c_ (f_ #[e_ d_ T.kind,e_ d_ T.num,g_ T.name,a_ A T.args.length c] 61 (0,0))/\aG (·<B) W (cn T.kind T.num T.name A T.args.length c) T/\B<=W.heap.size):=Z_ λcur sv W h=>by
   have cg:=h.gr.below ev λg e=>(cb.o g e).1
   exact⟨(h.gr.block O_ (λe=>by have:=(cb.o _ e).2;omega)).trans ee.o,eg.o.ae λg hg=>⟨hg,cg.block g hg⟩,by have:=cg.size;omega⟩
  clear b2;rw[a1]at y0 X U⊢;rw[X]at y0 y1 y2 y3;clear bR;go_enter Tryz.func120,Tryz.ntmps120;go_upto_region 1 with fail;rw[<-X];clear X y0 y1 y2 y3;obtain⟨y0,y1,y2,y3⟩:=aX (U.o _ _ _ b0.o).1;go_upto_region 2 with(at_builtin;refine aE _ rfl _ _ _ rfl B 5 _ jb _ _ rfl (bm _) _ _ _ rfl cf (aZ _) ?c1 ?c2 ?_)
  case c1=>rw[t_];simp[l_];omega
  case c2=>simp;omega
  intro v2 w2 a2 ch bn;have G:=WS.app (xs:=[Y.toUInt8]) b0.o a2 ch (by rw[JQ];exact bn);obtain⟨j,J⟩:=N_ (bs++[Y.toUInt8]);have ck:j.length=bs.length+1:=by rw[J];simp
  rw[<-J]at G;obtain⟨A2,c2,rfl⟩:=G.form;have I:=Z_ G;have K:=Z_ J;have cl:j.length<=bs.length+1:=by omega
  obtain⟨y0,y1,y2,y3⟩:=aX (U.o _ _ _ G).1;have bo:=(U.o _ _ _ G).2.2;clear J G a2 ch bn cf bm ck eo b0;by_cases h1:Y=1
  ·subst h1
   obtain⟨O,cp,gy⟩:∃O:Nat,T.num=(O:Int)/\O<1073741824:=by
    obtain⟨k,n,s,ts⟩:=T;rcases eu cd with⟨_,h0,h1,_⟩|⟨h,_⟩|⟨h,_⟩|⟨h,_⟩
    ·have h0:0<=n:=h0
     have h1:n<1073741824:=h1;exact⟨n.toNat,by show n=_;omega,by omega⟩
    all_goals(rw[a1]at h;cases h)
   have cr:x_ (bs++gM T=j++eK O):=Z_ (by
    rw[gT,a1,G_ (show((1:Nat):Int)=1 from rfl),K.o,cp,Lh,JU];rfl)
   rw[cp]at y1;have ct:∀o,Par.Own (w2.alloc o) B 5 (a_ A2 j.length c2) (l_ j):=λo=>I.o.own.alloc o
   have cu:bw (w2.alloc (f_ #[e_ KD ((O:Int)/16777216),e_ KD ((O:Int)/65536%256),e_ KD ((O:Int)/256%256),e_ KD ((O:Int)%256)] 5)) (w2+1) (a_ (c_ ⟨w2,0,b_⟩) 4 4) (l_ (eK O)):=by
    have h:=bw.new w2 5 #[e_ KD ((O:Int)/16777216),e_ KD ((O:Int)/65536%256),e_ KD ((O:Int)/256%256),e_ KD ((O:Int)%256)] (l_ (eK O)) (by
     rw[ll O O_,show(O:Int)/16777216%256=(O:Int)/16777216 by omega]) (by rw[t_,bz];simp[JT])
    rw[t_,bz]at h;exact h
   go_wp2_with (at_builtin;refine aE _ rfl _ _ _ rfl B 5 _ jb _ _ rfl (ct _) _ _ _ rfl cu (aZ _) ?c1 ?c2 ?_)
   case c1=>rw[t_,t_,bz];omega
   case c2=>simp;omega
   intro v3 w3 ba cv bp;have bb:=WS.app (xs:=eK O) I.o ba cv (by rw[JQ];exact bp);have HE:x_ (Par.Own w3 B 5 v3 (l_ (bs++gM T))/\Gr w w3 (a_ Am bs.length cm) v3):=Z_ ⟨by rw[cr.o];exact bb.own,(Gr.ar b5.o _).trans bb.gr⟩;clear bb ba cv bp;go_wp2;go_ret;exact⟨_,rfl,HE.o.1,HE.o.2⟩
  have cx:((Y:Int)==1)=false:=by simp;omega
  have eA:KD.wrap (T.args.length:Int)=(T.args.length:Int):=by unfold Lg;simp[KQ,KZ];omega
  have cB:=Z_ (pk B T.name j (a_ A2 j.length c2) w2 bo I.o.own cc (by have:=HP.o;omega));have eC:T.name.data.toList.length=T.name.size:=by rw[Ko];rfl
  go_upto_region 4 with fail
  go_upto_if 35 with fail
  go_cut [0] (λsv W=>∃t,x_ (WS B W1 (a_ Am bs.length cm) t sv W)/\x_ (bs++gM T=t++([T.args.length.toUInt8]++jj T.args))/\x_ (t.length<=bs.length+257))
  case first=>
   by_cases h2:Y=2
   ·subst h2
    go_wp2_with (go_at_call 121;refine cB.o.mono ?_;rintro e w4 ⟨v4,rfl,e0,e1⟩);go_meet;refine⟨j++([T.name.size.toUInt8]++T.name.data.toList),Z_ ⟨e0,I.o.gr.trans e1⟩,Z_ ?_,Z_ ?_⟩
    ·rw[gT,a1,I_ (show¬((2:Nat):Int)=1 by decide),G_ (show((2:Nat):Int)=2 from rfl),K.o]
     simp only[JU];rfl
    simp only[p_,Kt,eC];omega
   have fb:((Y:Int)==2)=false:=by simp;omega
   have ad:x_ (bs++gM T=j++([T.args.length.toUInt8]++jj T.args)):=Z_ (by
    rw[gT,a1,I_ (show¬((Y:Nat):Int)=1 by omega),I_ (show¬((Y:Nat):Int)=2 by omega),K.o,Lh];simp only[JU,Kl])
   go_wp2_with fail;go_meet;exact⟨j,I,ad,Z_ O_⟩
  obtain⟨t,ak,ad,bt⟩:=hcut;have av:=ak.o;clear y0 y1 y2 y3 cB K I bo cl;obtain⟨A4,c4,rfl⟩:=av.form;obtain⟨y0,y1,y2,y3⟩:=aX (U.o _ _ _ av).1;have fi:=(U.o _ _ _ av).2.2;have bx:=mC wc T.args.length O_;have bB:∀o,Par.Own (wc.alloc o) B 5 (a_ A4 t.length c4) (l_ t):=λo=>ak.o.own.alloc o
  have cE:t.length<=bs.length+257:=bt.o;clear av;go_upto_region 7 with(at_builtin;refine aE _ rfl _ _ _ rfl B 5 _ jb _ _ rfl (bB _) _ _ _ rfl bx (aZ _) ?c1 ?c2 ?_)
  case c1=>rw[t_];simp[l_];omega
  case c2=>simp;omega
  intro v5 w5 bd cF bN;have bf:=WS.app (xs:=[T.args.length.toUInt8]) ak.o bd cF (by rw[JQ];exact bN);obtain⟨bg,M⟩:=N_ (t++[T.args.length.toUInt8]);rw[<-M]at bf;have c6:x_ (bg++jj (T.args.drop 0)=bs++gM T):=Z_ (by rw[KU,ad.o,M,JU]);have c7:x_ (bg.length+300*aT (T.args.drop 0)<=bs.length+300*T.parts):=Z_ (by
   rw[KU,M,p_,T.parts_eq];simp;omega)
  have c8:=Z_ bf;clear y0 y1 y2 y3 bf M bd cF bN bB bx eA ad cE cx cc h1 bt ak;go_wp2
  go_loopw [0,5] (λsv iv W=>∃(k:Nat) (cur:List UInt8),k<=T.args.length/\iv=e_ d_ k/\x_ (WS B W1 (a_ Am bs.length cm) cur sv W)/\x_ (cur++jj (T.args.drop k)=bs++gM T)/\x_ (cur.length+300*aT (T.args.drop k)<=bs.length+300*T.parts)) (λ_ iv _=>T.args.length - (A_ iv).toNat)
  case atStart=>exact⟨0,bg,by omega,rfl,c8,c6,c7⟩
  obtain⟨k,cur,hk,rfl,D,c9,e2⟩:=hrel;obtain⟨As,cs,es⟩:=D.o.form;subst es;obtain⟨y0,y1,y2,y3⟩:=aX (U.o _ _ _ D.o).1;by_cases Z:k<T.args.length
  ·obtain⟨-,df,e3⟩:=U.o _ _ _ D.o
   obtain⟨b,off,A',c',rfl,hb,ht,x0,x1,x2,x3⟩:=df.arg Z;have heq:=c9.o;rw[sd Z]at heq;have e4:=iR Z;have e5:=lK T.args[k] (fq b6.o (JB Z));have hle:=e2.o;have b1:=IH.o k Z cur (a_ As cur.length cs) _ wr e3 ht D.o.own (en.o.arg Z) (fq b6.o (JB Z)) (by have:=HP.o;omega);have e6:x_ ((cur++gM T.args[k])++jj (T.args.drop (k+1))=bs++gM T):=Z_ (by rw[JU];exact heq);have e7:x_ ((cur++gM T.args[k]).length+300*aT (T.args.drop (k+1))<=bs.length+300*T.parts):=Z_ (by rw[p_];omega);clear ht df heq e4 e5 hle;generalize cur++gM T.args[k]=bj at*;generalize T.args[k]=V at*;unfold cn at b1;have e8:=Z_ b1;clear b1;go_wp2_with fail;refine e8.o.mono ?_;rintro e w6 ⟨v6,rfl,dv,eb⟩;have ec:x_ (WS B W1 (a_ Am bs.length cm) bj v6 w6):=Z_ ⟨dv,D.o.gr.trans eb⟩;clear dv eb;go_wp2;go_roundw
   case rel=>exact⟨k+1,bj,by omega,by go_num,ec,e6,e7⟩
   simp[A_];omega
  have e9:k=T.args.length:=by omega
  have heq:=c9.o;rw[e9,Ma,jj,La]at heq;have HE:x_ (Par.Own wr B 5 (a_ As cur.length cs) (l_ (bs++gM T))/\Gr w wr (a_ Am bs.length cm) (a_ As cur.length cs)):=Z_ ⟨by rw[<-heq];exact D.o.own,(Gr.ar b5.o _).trans D.o.gr⟩;clear heq;go_wp2;go_ret;exact⟨_,rfl,HE.o.1,HE.o.2⟩
theorem lT(xs:List Ex)(bb:∀x∈xs,qj x)(v:Value)(w:j_)(hX:bA (·<w.heap.size) w v xs):H_ h_ 76 #[v] w (gZ xs w):=by
 obtain⟨P,hP⟩:=N_ (gZ xs w);have bd:=Z_ hP;rw[<-hP];clear hP;obtain⟨A,c,rfl,hc,hm⟩:=hX.form;have cm:xs.length<=9223372036854775807:=by simp only[JT]at hm;omega
 have b3:=Z_ (uP xs bb _ w hX);have HX:=Z_ hX;clear hX hc hm bb;go_enter Tryz.func76,Tryz.ntmps76;go_wp2_with fail;refine b3.o.mono ?_;rintro e j ⟨rfl,V⟩;have bf:=Z_ V;have Y:=V.size;clear V;by_cases hr:aM xs=v_
 rotate_left
 ·have K:aM xs=false:=by simpa using hr
  have HE:x_ (P (k_ (.tuple #[a_ b_ 0 0,e_ d_ 140])) j):=Z_ (by
   rw[bd.o];unfold gZ;refine⟨a_ b_ 0 0,by rw[K];rfl,bf.o,λh=>?_,λ_=>rfl⟩;rw[K]at h;cases h)
  rw[K];clear hr K;go_wp2;exact HE.o
 have hl:=eD hr;have Z:=Z_ hr;rw[hr];clear hr;obtain⟨W3,D⟩:=N_ (j.alloc (f_ #[e_ KD ((xs.length:Int)/256),e_ KD ((xs.length:Int)%256)] 5));have bg:n_ j j W3:=by rw[D];exact B_.alloc L_ _
 have G:Par.Own W3 w 5 (a_ (c_ ⟨j,0,b_⟩) 2 2) (l_ [(xs.length/256).toUInt8,xs.length.toUInt8]):=by
  rw[D];have h:=Par.Own.new j w 5 #[e_ KD ((xs.length:Int)/256),e_ KD ((xs.length:Int)%256)] (l_ [(xs.length/256).toUInt8,xs.length.toUInt8]) (by
   rw[show l_ [(xs.length/256).toUInt8,xs.length.toUInt8]=l_ [(xs.length/256).toUInt8]++l_ [xs.length.toUInt8]from rfl,<-mK (xs.length/256) ((xs.length:Int)/256) O_,<-mK xs.length ((xs.length:Int)%256) O_];rfl) Y (by simp[l_,JT])
  simpa[l_]using h
 have bj:x_ (WS w W3 (a_ (c_ ⟨j,0,b_⟩) 2 2) [(xs.length/256).toUInt8,xs.length.toUInt8] (a_ (c_ ⟨j,0,b_⟩) 2 2) W3):=Z_ ⟨G,Gr.refl _ _⟩;have b5:x_ (n_ w w W3):=Z_ (bf.o.trans (bg.mono Y));have cp:w.heap.size<=j.heap.size/\j.heap.size<W3.heap.size:=⟨Y,by rw[D];simp⟩;clear G bg;go_wp2;rw[<-D];clear D
 go_loopw [4,5] (λsv iv W=>∃(k:Nat) (cur:List UInt8),k<=xs.length/\iv=e_ d_ k/\x_ (WS w W3 (a_ (c_ ⟨j,0,b_⟩) 2 2) cur sv W)/\x_ (cur++fP (xs.drop k)=et xs)/\cur.length<=2+100000*k) (λ_ iv _=>xs.length - (A_ iv).toNat)
 case atStart=>exact⟨0,_,by omega,rfl,bj,Z_ (by rw[KU];rfl),by simp⟩
 obtain⟨k,cur,hk,rfl,t,bk,cr⟩:=hrel;have bm:n_ w W3 wr:=t.o.gr.below O_ λg e=>by
  have e:j.heap.size=g:=by simpa[Value.ownBlock]using e
  omega
 have ad:x_ (n_ w w wr):=Z_ (b5.o.trans bm);have M:=ad.o.size;obtain⟨O,cs,es⟩:=t.o.form;subst es;clear bm;by_cases ak:k<xs.length
 ·obtain⟨b,off,A',c',rfl,hb,b6,ht,x0,x1,x2,x3,x4⟩:=(HX.o.ae (S':=(·<w.heap.size)) λg hg=>⟨hg,ad.o.block g hg⟩).arg ak
  obtain⟨bn,cb,bo,av⟩:=kQ Z.o ak;have heq:=bk.o;rw[lu ak]at heq;obtain⟨cc,bp⟩:=cU.1 (jc bo);have cd:=lK xs[k].ty av;have cf:xs[k].name.data.toList.length=xs[k].name.size:=by rw[Ko];rfl
  have cg:x_ (((cur++([xs[k].name.size.toUInt8]++xs[k].name.data.toList))++gM xs[k].ty)++fP (xs.drop (k+1))=et xs):=Z_ (by
   rw[<-heq];unfold Bo;simp only[JU])
  have bt:((cur++([xs[k].name.size.toUInt8]++xs[k].name.data.toList))++gM xs[k].ty).length<=2+100000*(k+1):=by
   simp only[p_,Kt];omega
  have I:b<w:=hb;have J:x_ (∀W v',Gr wr W (a_ O cur.length cs) v'->n_ w wr W):=Z_ λW v' h=>h.below M λg e=>(t.o.own.lt g e).1
  have ch:x_ (∀W,n_ wr wr W->H_ h_ 121 #[a_ O cur.length cs,g_ xs[k].name] W λe w'=>∃v',e=k_ v'/\Par.Own w' w 5 v' (l_ (cur++([xs[k].name.size.toUInt8]++xs[k].name.data.toList)))/\Gr wr w' (a_ O cur.length cs) v'):=Z_ λW hW=>by
   refine(pk w xs[k].name cur (a_ O cur.length cs) W (Kj M hW.size) (t.o.own.below hW) bn O_).mono ?_;rintro e w' ⟨v',h1,h2,h3⟩;exact⟨v',h1,h2,(Gr.ar hW _).trans h3⟩
  have ck:x_ (∀W v',Gr wr W (a_ O cur.length cs) v'->Par.Own W w 5 v' (l_ (cur++([xs[k].name.size.toUInt8]++xs[k].name.data.toList)))->H_ h_ 120 #[v',.agg #[e_ d_ xs[k].ty.kind,e_ d_ xs[k].ty.num,g_ xs[k].ty.name,a_ A' xs[k].ty.args.length c']] W λe w'=>
    ∃v2,e=k_ v2/\Par.Own w' w 5 v2 (l_ ((cur++([xs[k].name.size.toUInt8]++xs[k].name.data.toList))++gM xs[k].ty))/\Gr wr w' (a_ O cur.length cs) v2):=Z_ λW v' hg ho=>by
   have bx:=J.o W v' hg;refine(yL w xs[k].ty _ v' _ W (Kj M bx.size) (ht.ae λg (bB:g<w)=>⟨bB,bx.block g bB⟩) ho bp av (by simp only[p_,Kt];omega)).mono ?_;rintro e w' ⟨v2,h1,h2,h3⟩;exact⟨v2,h1,h2,hg.trans h3⟩
  have a1:x_ (∀W,n_ w wr W->W.cell? ⟨b,off+k*5,b_⟩=c_ (g_ xs[k].name)/\W.cell? ⟨b,off+k*5+1,b_⟩=c_ (e_ d_ xs[k].ty.kind)/\W.cell? ⟨b,off+k*5+2,b_⟩=c_ (e_ d_ xs[k].ty.num)/\W.cell? ⟨b,off+k*5+3,b_⟩=c_ (g_ xs[k].ty.name)/\W.cell? ⟨b,off+k*5+4,b_⟩=c_ (a_ A' xs[k].ty.args.length c')):=
   Z_ λW h=>⟨(h.cell (p:=⟨_,_,b_⟩) I).trans x0,(h.cell (p:=⟨_,_,b_⟩) I).trans x1,(h.cell (p:=⟨_,_,b_⟩) I).trans x2,(h.cell (p:=⟨_,_,b_⟩) I).trans x3,(h.cell (p:=⟨_,_,b_⟩) I).trans x4⟩
  have bN:x_ (n_ wr wr wr.drew):=Z_ (JG wr _).drew;have bO:x_ (n_ w wr wr.drew):=Z_ (bN.o.mono M);clear bn cb bo av heq cc bp cd ht b6 cf;generalize cur++([xs[k].name.size.toUInt8]++xs[k].name.data.toList)=bR at*;generalize xs[k]=X at*;generalize bR++gM X.ty=U at*;clear x0 x1 x2 x3 x4;go_wp2_with fail
  go_region_held (λW:j_=>W.cell? ⟨b,off+k*5,b_⟩=c_ (g_ X.name)/\W.cell? ⟨b,off+k*5+1,b_⟩=c_ (e_ d_ X.ty.kind)/\W.cell? ⟨b,off+k*5+2,b_⟩=c_ (e_ d_ X.ty.num)/\W.cell? ⟨b,off+k*5+3,b_⟩=c_ (g_ X.ty.name)/\W.cell? ⟨b,off+k*5+4,b_⟩=c_ (a_ A' X.ty.args.length c'))
   (first|exact a1.o _ bO.o|exact a1.o _ (J.o _ _ a2)|exact a1.o _ (J.o _ _ ba)) (first
    |(go_at_call 120;refine(ck.o _ _ ba b0).mono ?_;rintro e w6 ⟨v6,rfl,b1,a2⟩)
    |(go_at_call 121;refine(ch.o _ bN.o).mono ?_;rintro e w5 ⟨v5,rfl,b0,ba⟩))
  have b2:x_ (WS w W3 (a_ (c_ ⟨j,0,b_⟩) 2 2) U v6 w6):=Z_ ⟨b1,t.o.gr.trans a2⟩;clear b1 a2 b0 ba;go_wp2;go_roundw
  case rel=>exact⟨k+1,U,by omega,by go_num,b2,cg,bt⟩
  simp[A_];omega
 have cl:k=xs.length:=by omega
 have heq:=bk.o;rw[cl,Ma,fP,La]at heq;have HE:x_ (P (k_ (.tuple #[a_ O cur.length cs,e_ d_ 0])) wr):=Z_ (by
  rw[bd.o];unfold gZ;refine⟨a_ O cur.length cs,by rw[Z.o];rfl,ad.o,λ_=>?_,λh=>?_⟩
  ·rw[<-heq];exact t.o.own
  rw[Z.o]at h;cases h)
 clear heq;go_wp2;exact HE.o
