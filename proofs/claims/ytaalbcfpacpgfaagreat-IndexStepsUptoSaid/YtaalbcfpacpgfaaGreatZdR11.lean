import Derived.Deep.RegionWith
import Derived.Deep.RegionHeldLaw
import Derived.Test.YtaalbcfpacpgfaaGreatZdK7
import Derived.Test.YtaalbcfpacpgfaaGreatZdR4
import Derived.Test.YtaalbcfpacpgfaaGreatZdI15
set_option linter.all false
set_option maxHeartbeats 16000000
set_option maxRecDepth 100000
open And renaming intro->KM
open Bool renaming false->o_
open Go renaming Addr->Kb,Calls->H_,Value->m_,World->j_,bytesRow->Ms,grownCap->Lv
open Go.Ending renaming returned->k_
open Go.IntKind renaming bits->KZ,i64->d_,signed->KQ,u8->KD,wrap->Lg
open Go.Lib renaming byteCells->l_
open Go.Obj renaming cells->f_
open Go.Proofs.Tryz renaming prog->h_
open Go.RowKit renaming Below->n_,Hid->x_,intOf->A_
open Go.Value renaming agg->JI,bool->u_,int->e_,slice->a_,string->g_,tuple->J_
open Go.World renaming cell?->E_,frozen?->JW
open Option renaming isSome->MN,none->b_,some->c_
namespace Go.Proofs.YtaalbcfpacpgfaaGreat
open Go.RowKit Go.Lib Go.Vfs Go.Par Go.Shelf
theorem xM(w:j_)(j:Nat)(x y:m_):Kept (λb=>b=j) w ((w.setCell ⟨j,0,b_⟩ x).setCell ⟨j,1,b_⟩ y):=
 ((Kept.refl (λb=>b=j) w).setCell (p:=⟨j,0,b_⟩) (.inl rfl) _).setCell (p:=⟨j,1,b_⟩) (.inl rfl) _
structure J5(w:j_)(pj:Int)(vj:m_)(gen:Int)(bv rv:m_)(W:j_):Prop where
 below:n_ w.heap.size w W
 size:w.heap.size+2<=W.heap.size
 h0:W.heap[w.heap.size]?=c_ (f_ #[e_ d_ pj,vj,e_ d_ gen,bv,rv] 44 (0,0))
 h1:W.heap[w.heap.size+1]?=c_ (f_ #[e_ d_ 0,a_ b_ 0 0,e_ d_ 0,a_ b_ 0 0,a_ b_ 0 0] 44 (0,0))
section
variable{w W W':j_}{pj gen:Int}{vj bv rv:m_}
variable{n:Nat}{S:Nat->Prop}{base rest:List (List UInt8)}{v:m_}
theorem J5.GX(h:J5 w pj vj gen bv rv W)(hn:w.heap.size+2<=n)(j:n_ n W W'):J5 w pj vj gen bv rv W':=by
 have D:=h.size;have t:=j.size;exact⟨h.below.trans (j.mono O_),by omega,(j.block _ O_).trans h.h0,(j.block _ O_).trans h.h1⟩
theorem J5.go(h:J5 w pj vj gen bv rv W)(j:n_ W W W'):J5 w pj vj gen bv rv W':=h.GX h.size j
theorem J5.cells(h:J5 w pj vj gen bv rv W):
  W.cell? ⟨w,0,b_⟩=c_ (e_ d_ pj)/\W.cell? ⟨w,1,b_⟩=c_ vj/\W.cell? ⟨w,2,b_⟩=c_ (e_ d_ gen)/\W.cell? ⟨w,3,b_⟩=c_ bv/\W.cell? ⟨w,4,b_⟩=c_ rv/\
  W.frozen? ⟨w,0,b_⟩=o_/\W.frozen? ⟨w,1,b_⟩=o_/\W.frozen? ⟨w,2,b_⟩=o_/\W.frozen? ⟨w,3,b_⟩=o_/\W.frozen? ⟨w,4,b_⟩=o_/\W.frozen? ⟨w+1,0,b_⟩=o_/\W.frozen? ⟨w+1,1,b_⟩=o_/\W.frozen? ⟨w+1,2,b_⟩=o_/\W.frozen? ⟨w+1,3,b_⟩=o_/\W.frozen? ⟨w+1,4,b_⟩=o_/\W.cell? ⟨w+1,0,b_⟩=c_ (e_ d_ 0)/\W.cell? ⟨w+1,1,b_⟩=c_ (a_ b_ 0 0)/\W.cell? ⟨w+1,2,b_⟩=c_ (e_ d_ 0)/\W.cell? ⟨w+1,3,b_⟩=c_ (a_ b_ 0 0)/\W.cell? ⟨w+1,4,b_⟩=c_ (a_ b_ 0 0):=by
 have h0:=h.h0;have h1:=h.h1;simp[E_,JW,h0,h1]
theorem J5.start(w:j_)(pj gen:Int)(vj bv rv:m_):J5 w pj vj gen bv rv ((w.alloc (f_ #[e_ d_ pj,vj,e_ d_ gen,bv,rv] 44)).alloc (f_ #[e_ d_ 0,a_ b_ 0 0,e_ d_ 0,a_ b_ 0 0,a_ b_ 0 0] 44)):=by
 have j:=ah w (f_ #[e_ d_ pj,vj,e_ d_ gen,bv,rv] 44);have b2:=ah (w.alloc (f_ #[e_ d_ pj,vj,e_ d_ gen,bv,rv] 44)) (f_ #[e_ d_ 0,a_ b_ 0 0,e_ d_ 0,a_ b_ 0 0,a_ b_ 0 0] 44);have t:(w.alloc (f_ #[e_ d_ pj,vj,e_ d_ gen,bv,rv] 44)).heap.size=w.heap.size+1:=by simp
 refine⟨j.trans (b2.mono O_),by simp,?_,?_⟩
 ·rw[b2.block _ O_];exact r_ w _
 rw[<-t];exact r_ _ _
theorem J5.kept(h:J5 w pj vj gen bv rv W)(J:Kept (λb=>b=w.heap.size) W W'){t j:Int}{D G I:m_}(h0:W'.heap[w.heap.size]?=c_ (f_ #[e_ d_ t,D,e_ d_ j,G,I] 44 (0,0))):J5 w t D j G I W':=by
 have M:=h.size;have K:=J.size;exact⟨h.below.trans (J.below O_ (λk J=>by omega)),by omega,h0,(J.block _ O_ O_).trans h.h1⟩
theorem sI(w W:j_)(a0 t:m_)(i j:Nat):Kept (λb=>b=w.heap.size) W ((W.setCell ⟨w,i,b_⟩ a0).setCell ⟨w,j,b_⟩ t):=
 ((Kept.refl (λb=>b=w.heap.size) W).setCell (p:=⟨w,i,b_⟩) (.inl rfl) _).setCell (p:=⟨w,j,b_⟩) (.inl rfl) _
theorem xz(w W:j_)(a0:m_)(i:Nat):Kept (λb=>b=w.heap.size) W (W.setCell ⟨w,i,b_⟩ a0):=(Kept.refl (λb=>b=w.heap.size) W).setCell (p:=⟨w,i,b_⟩) (.inl rfl) _
theorem J5.files(h:J5 w pj vj gen bv rv W)(j:Int)(t:m_):J5 w j t gen bv rv ((W.setCell ⟨w,0,b_⟩ (e_ d_ j)).setCell ⟨w,1,b_⟩ t):=by
 refine h.kept (sI w W _ _ _ _) ?_;have h2:=cM (cM h.h0 0 (e_ d_ j)) 1 t;simpa using h2
theorem J5.Jd(h:J5 w pj vj gen bv rv W)(g:Int):J5 w pj vj g bv rv (W.setCell ⟨w,2,b_⟩ (e_ d_ g)):=by
 refine h.kept (xz w W _ _) ?_;have h2:=cM h.h0 2 (e_ d_ g);simpa using h2
theorem J5.Cf(h:J5 w pj vj gen bv rv W)(u:m_):J5 w pj vj gen u rv (W.setCell ⟨w,3,b_⟩ u):=by
 refine h.kept (xz w W _ _) ?_;have h2:=cM h.h0 3 u;simpa using h2
theorem J5.Ik(h:J5 w pj vj gen bv rv W)(u:m_):J5 w pj vj gen bv u (W.setCell ⟨w,4,b_⟩ u):=by
 refine h.kept (xz w W _ _) ?_;have h2:=cM h.h0 4 u;simpa using h2
structure sh(S:Nat->Prop)(w:j_)(fs:List af)(base rest:List (List UInt8))(v bv rv:m_):Prop where
 ref:aA S w v fs
 rb:al S w bv base
 rr:al S w rv rest
theorem sh.ae{S':Nat->Prop}{fs:List af}{bv rv:m_}(h:sh S w fs base rest v bv rv)(j:∀b,S b->S' b/\W.heap[b]?=w.heap[b]?):sh S' W fs base rest v bv rv:=⟨h.ref.ae j,h.rb.ae j,h.rr.ae j⟩
theorem sh.gu{fs:List af}{b r:m_}(h:sh S w fs base rest v b r)(hS:∀b,S b->b<w.heap.size)(j:n_ w w W):sh S W fs base rest v b r:=h.ae λb hs=>⟨hs,j.block b (hS b hs)⟩
theorem iz(hS:∀b,S b->b<w.heap.size)(J:w.heap.size+2<=W.heap.size){F:Nat->Prop}(t:Kept F W W')(G:∀k,F k->k=w.heap.size\/k=w.heap.size+1\/W.heap.size<=k):∀b,jo S w W b->jo S w W' b/\W'.heap[b]?=W.heap[b]?:=λb j=>by
 have I:=t.size;rcases j with j|j
 ·have:=hS b j
  exact⟨.inl j,t.block b O_ (λD=>by have:=G b D;omega)⟩
 exact⟨.inr ⟨j.1,by omega⟩,t.block b j.2 (λD=>by have:=G b D;omega)⟩
theorem uz(hS:∀b,S b->b<w.heap.size)(t:w.heap.size+2<=W.heap.size):∀b,jo S w W b->b<W.heap.size:=λb j=>by
 rcases j with j|j
 ·have:=hS b j;omega
 exact j.2
theorem yA(t:w.heap.size<=W.heap.size):∀b,jo S w W b->fO S w W b:=λb j=>by
 rcases j with j|j
 ·exact .inl j
 exact .inr ⟨by omega,j.2⟩
def fB(w:j_)(S:Nat->Prop)(r:St×Int)(gen:Int)(base rest:List (List UInt8))(e:Ending)(w':j_):Prop:=
 ∃A n c Ab nb cb Ar nr cr,e=k_ (J_ #[JI #[e_ d_ r.1.aa,a_ A n c,e_ d_ gen,a_ Ab nb cb,a_ Ar nr cr],e_ d_ r.2])/\sh (fO S w w') w' r.1.files base rest (a_ A n c) (a_ Ab nb cb) (a_ Ar nr cr)/\n_ w.heap.size w w'
theorem J5.fin{T:St}{er:Int}{A t D:Option Kb}{c G I J K:Nat}(h:J5 w T.aa (a_ A n c) gen (a_ t G I) (a_ D J K) W)(hS:∀b,S b->b<w.heap.size)(hr:sh (jo S w W) W T.files base rest (a_ A n c) (a_ t G I) (a_ D J K)):
  fB w S (T,er) gen base rest (k_ (J_ #[JI #[e_ d_ T.aa,a_ A n c,e_ d_ gen,a_ t G I,a_ D J K],e_ d_ er])) (((((W.setCell ⟨w+1,0,b_⟩ (e_ d_ T.aa)).setCell ⟨w+1,1,b_⟩ (a_ A n c)).setCell ⟨w+1,2,b_⟩ (e_ d_ gen)).setCell ⟨w+1,3,b_⟩ (a_ t G I)).setCell ⟨w+1,4,b_⟩ (a_ D J K)):=by
 have j:=BS w W (e_ d_ T.aa) (a_ A n c) (e_ d_ gen) (a_ t G I) (a_ D J K);have O:=h.size;have U:=j.size;refine⟨_,_,_,_,_,_,_,_,_,rfl,hr.ae λb V=>?_,h.below.trans (j.below O_ (λk M=>by omega))⟩;obtain⟨h1,h2⟩:=iz hS O j (λk M=>.inr (.inl M)) b V;exact⟨yA O_ b h1,h2⟩
end
theorem yY(st:St)(hp:st.aa<=9223372036854775807)(S:Nat->Prop)(w:j_)(hS:∀b,S b->b<w.heap.size)(g:Int)(base rest:List (List UInt8))(A Ab Ar:Option Kb)(n c nb cb nr cr:Nat)(h:sh S w st.files base rest (a_ A n c) (a_ Ab nb cb) (a_ Ar nr cr))(hl:st.files.length<=900000)(hd:∀f∈st.files,f.data.length<=1000000):
  H_ h_ 72 #[JI #[e_ d_ st.aa,a_ A n c,e_ d_ g,a_ Ab nb cb,a_ Ar nr cr]] w (fB w S (dx st) g base rest):=by
 have h0:=J5.start w st.aa g (a_ A n c) (a_ Ab nb cb) (a_ Ar nr cr);have a1:=Z_ (nk st _ S _ (λb j=>by have:=hS b j;have:=h0.size;omega) (h.gu hS h0.below).ref aK (by decide) (by decide) hd);have ba:x_ (∀W,J5 w st.aa (a_ A n c) g (a_ Ab nb cb) (a_ Ar nr cr) W->H_ h_ 114 #[JI #[e_ d_ st.aa,a_ A n c],g_ ⟨#[108,111,103]⟩] W (qo W S (dG st aK))):=Z_ λW hW=>
  tw st hp _ S W (λb j=>by have:=hS b j;have:=hW.size;omega) (h.gu hS hW.below).ref aK (by decide) hl
 have H0:=Z_ h0;have H:=Z_ h;have HS:=Z_ hS;clear h0 h hS hd;obtain⟨P,hP⟩:=N_ (fB w S (dx st) g base rest);rw[<-hP];have HP:=Z_ hP;clear hP;go_enter Tryz.func72,Tryz.ntmps72;go_wp2_with fail;refine a1.o.mono ?_;rintro e w1 ⟨rfl,bb⟩;have t:=Z_ (H0.o.go bb);have a2:x_ (sh (jo S w w1) w1 st.files base rest (a_ A n c) (a_ Ab nb cb) (a_ Ar nr cr)):=Z_ (H.o.ae λb j=>⟨.inl j,t.o.below.block b (HS.o b j)⟩);clear bb a1 H0;cases hh:bV st.files aK
 ·have HE:x_ (dx st=(st,0)):=Z_ (by unfold dx;rw[hh];rfl)
  clear hh;obtain⟨x0,x1,x2,x3,x4,x5,x6,x7,x8,x9,I,J,K,M,O,U,V,X,Y,Z⟩:=t.o.cells;go_wp2;refine C_ (v:=J_ #[JI #[e_ d_ st.aa,a_ A n c,e_ d_ g,a_ Ab nb cb,a_ Ar nr cr],e_ d_ 0]) (by simp[results,Tryz.results72,go_sem,x0,x1,x2,x3,x4,x5,x6,x7,x8,x9,I,J,K,M,O,U,V,X,Y,Z]) rfl ?_;rw[HP.o,HE.o];exact t.o.fin HS.o a2.o
 have HE:x_ (dx st=dG st aK):=Z_ (by unfold dx;rw[hh];rfl);have D:=ba.o w1 t.o;rw[<-HE.o]at D;have D:=Z_ D;clear hh ba;obtain⟨R,hR⟩:=N_ (dx st);rw[<-hR]at D HP;clear hR HE;obtain⟨T,er⟩:=R;obtain⟨x0,x1,x2,x3,x4,x5,x6,x7,x8,x9,I,J,K,M,O,U,V,X,Y,Z⟩:=t.o.cells;go_wp2_with fail;refine D.o.mono ?_;rintro e G ⟨v2,rfl,ak,ad⟩;obtain⟨A2,c2,rfl,-⟩:=ak.form;simp only at ak;have av:=((t.o.go ad).go (ah G (f_ #[e_ d_ T.aa,a_ A2 T.files.length c2] 33)));have bg:=Z_ (av.files T.aa (a_ A2 T.files.length c2));have bd:n_ w1 w1 (G.alloc (f_ #[e_ d_ T.aa,a_ A2 T.files.length c2] 33)):=ad.trans ((ah G _).mono ad.size);have bj:x_ (sh (jo S w ((((G.alloc (f_ #[e_ d_ T.aa,a_ A2 T.files.length c2] 33)).setCell ⟨w,0,b_⟩ (e_ d_ T.aa)).setCell ⟨w,1,b_⟩ (a_ A2 T.files.length c2)))) ((((G.alloc (f_ #[e_ d_ T.aa,a_ A2 T.files.length c2] 33)).setCell ⟨w,0,b_⟩ (e_ d_ T.aa)).setCell ⟨w,1,b_⟩ (a_ A2 T.files.length c2))) T.files base rest (a_ A2 T.files.length c2) (a_ Ab nb cb) (a_ Ar nr cr)):=by
  have bk:=av.size;have g1:∀b,jo S w w1 b->jo S w (G.alloc (f_ #[e_ d_ T.aa,a_ A2 T.files.length c2] 33)) b/\_:=iz HS.o t.o.size (Kept.ar (F:=λ_=>False) bd) (λk hk=>hk.elim);have g2:=iz HS.o bk (sI w (G.alloc (f_ #[e_ d_ T.aa,a_ A2 T.files.length c2] 33)) (e_ d_ T.aa) (a_ A2 T.files.length c2) 0 1) (λk hk=>.inl hk);have bf:=λb j=>(⟨(g2 b (g1 b j).1).1,(g2 b (g1 b j).1).2.trans (g1 b j).2⟩:_/\_)
  refine Z_ ⟨?_,a2.o.rb.ae bf,a2.o.rr.ae bf⟩;have h3:aA (jo S w (G.alloc (f_ #[e_ d_ T.aa,a_ A2 T.files.length c2] 33))) (G.alloc (f_ #[e_ d_ T.aa,a_ A2 T.files.length c2] 33)) (a_ A2 T.files.length c2) T.files:=ak.ae λb j=>by
   have bn:=ad.size;have bo:=t.o.size;have bm:b<G:=by
    rcases j with j|j
    ·have:=HS.o b j;omega
    exact j.2
   refine⟨?_,(ah G _).block b bm⟩;rcases j with j|j
   ·exact .inl j
   exact .inr ⟨by omega,by have:=(ah G (f_ #[e_ d_ T.aa,a_ A2 T.files.length c2] 33)).size;omega⟩
  exact h3.ae g2
 clear x0 x1 x2 x3 x4 x5 x6 x7 x8 x9 I J K M O U V X Y Z;obtain⟨x0,x1,x2,x3,x4,x5,x6,x7,x8,x9,I,J,K,M,O,U,V,X,Y,Z⟩:=av.cells;clear av ak ad bd D t;go_wp2;refine C_ (v:=J_ #[JI #[e_ d_ T.aa,a_ A2 T.files.length c2,e_ d_ g,a_ Ab nb cb,a_ Ar nr cr],e_ d_ er]) (by simp[results,Tryz.results72,go_sem,x0,x1,x2,x3,x4,x5,x6,x7,x8,x9,I,J,K,M,O,U,V,X,Y,Z]) rfl ?_;rw[HP.o];exact bg.o.fin HS.o bj.o
theorem Rowed.more{w wr:j_}{ls:List (List UInt8)}{v:m_}{us:List m_}(h:Rowed w ls ls.length v us wr)(p:List UInt8):Rowed w (ls++[p]) ls.length v us wr:=
 ⟨h.below,h.len,h.own,λi hi=>by rw[fG _ _ _ _ hi];exact h.cells i hi⟩
def xV(S:Nat->Prop)(w:j_)(X:Nat)(W:j_)(b:Nat):Prop:=jo S w W b/\b≠X
structure hZ(S:Nat->Prop)(w:j_)(T:St)(pw g:Int)(v bv rv:m_)(b:Nat)(u:m_)(W:j_):Prop where
 box:W.heap[b]?=c_ (f_ #[e_ d_ T.aa,u] 33 (0,0))
 j5:J5 w pw v g bv rv W
 ref:aA (xV S w b W) W u T.files
 lo:w.heap.size+2<=b
section
variable{S:Nat->Prop}{w W w6:j_}{T:St}{pw g:Int}{v bv rv u:m_}
theorem hZ.late(hS:∀b,S b->b<w.heap.size)(G:J5 w pw v g bv rv w6)(I:aA (fO S W w6) w6 u T.files)(K:w.heap.size+2<=W.heap.size):hZ S w T pw g v bv rv w6 u (w6.alloc (f_ #[e_ d_ T.aa,u] 33)):=by
 have t:=ah w6 (f_ #[e_ d_ T.aa,u] 33);have hj:=G.size;refine⟨r_ w6 _,G.go t,I.ae λb j=>?_,hj⟩;have D:b<w6:=by
  rcases j with j|j
  ·have:=hS b j;omega
  exact j.2
 have J:=t.size;refine⟨⟨?_,by omega⟩,t.block b D⟩;rcases j with j|j
 ·exact .inl j
 exact .inr ⟨by omega,by omega⟩
theorem hZ.early(hS:∀b,S b->b<w.heap.size)(I:J5 w pw v g bv rv w6)(K:aA (fO S W w6) w6 u T.files){X:Nat}{a b:m_}(J:w6.heap[X]?=c_ (f_ #[a,b] 33 (0,0)))(h1:w.heap.size+2<=X)(h2:X<W):hZ S w T pw g v bv rv X u ((w6.setCell ⟨X,0,b_⟩ (e_ d_ T.aa)).setCell ⟨X,1,b_⟩ u):=by
 have D:=xM w6 X (e_ d_ T.aa) u;have hj:=I.size;have M:=F_ J;have O:=D.size;refine⟨dP (eS J),I.GX (n:=X) h1 (D.below O_ (λk U=>by omega)),K.ae λb j=>?_,h1⟩;have t:b≠X:=by
  rcases j with j|j
  ·have:=hS b j;omega
  omega
 have G:b<w6:=by
  rcases j with j|j
  ·have:=hS b j;omega
  exact j.2
 refine⟨⟨?_,t⟩,D.block b G t⟩;rcases j with j|j
 ·exact .inl j
 exact .inr ⟨by omega,by omega⟩
theorem hZ.cells{X:Nat}(h:hZ S w T pw g v bv rv X u W):W.cell? ⟨X,0,b_⟩=c_ (e_ d_ T.aa)/\W.cell? ⟨X,1,b_⟩=c_ u/\W.frozen? ⟨X,0,b_⟩=o_/\W.frozen? ⟨X,1,b_⟩=false:=by
 have h0:=h.box;simp[E_,JW,h0]
end
def im(X:Nat)(W:j_):Prop:=W.heap[X]?=c_ (f_ #[e_ d_ 0,a_ b_ 0 0] 33 (0,0))
theorem im.cells{X:Nat}{W:j_}(h:im X W):W.cell? ⟨X,0,b_⟩=c_ (e_ d_ 0)/\W.cell? ⟨X,1,b_⟩=c_ (a_ b_ 0 0)/\W.frozen? ⟨X,0,b_⟩=o_/\W.frozen? ⟨X,1,b_⟩=false:=by
 unfold im at h;simp[E_,JW,h]
theorem im.go{X:Nat}{W W':j_}(h:im X W)(j:n_ W W W'):im X W':=(j.block _ (F_ h)).trans h
theorem im.new(W:j_):im W (W.alloc (f_ #[e_ d_ 0,a_ b_ 0 0] 33)):=r_ W _
theorem Rowed.cast{w wr:j_}{ls:List (List UInt8)}{k m:Nat}{v:m_}{us:List m_}(h:Rowed w ls k v us wr)(e:k=m):Rowed w ls m v us wr:=e▸h
theorem nA(st:St)(hp:st.aa<=9223372036854775807)(S:Nat->Prop)(w:j_)(hS:∀b,S b->b<w.heap.size)(g:Nat)(hg:g<4294967296)(base rest:List (List UInt8))(A O Ar:Option Kb)(n c U V X cr:Nat)(h:sh S w st.files base rest (a_ A n c) (a_ O U V) (a_ Ar X cr))(hl:st.files.length<=900000)(hd:∀f∈st.files,f.data.length<=1000000)
  (Ap:Option Kb) (cp:Nat) (aJ:List UInt8) (hv:bw w w (a_ Ap aJ.length cp) (l_ aJ)) (e5:aJ.length<=65536) (en:rest.length<=1000000) (cB:∀l∈rest,l.length<=1000000):
  H_ h_ 69 #[JI #[e_ d_ st.aa,a_ A n c,e_ d_ (g:Nat),a_ O U V,a_ Ar X cr],a_ Ap aJ.length cp] w (fB w S ((aQ st g rest aJ).1,(aQ st g rest aJ).2.1) (g:Nat) base (aQ st g rest aJ).2.2):=by
 have h0:=J5.start w st.aa (g:Nat) (a_ A n c) (a_ O U V) (a_ Ar X cr);obtain⟨M,hM⟩:=N_ ((aw g aJ).length);have e6:M<=65548:=by rw[hM,bc];omega
 have HM:=Z_ hM;have H0:=Z_ h0;have H:=Z_ h;have HS:=Z_ hS;have HV:=Z_ hv;have ct:x_ (∀W,J5 w st.aa (a_ A n c) (g:Nat) (a_ O U V) (a_ Ar X cr) W->H_ h_ 113 #[e_ d_ (g:Nat),a_ Ap aJ.length cp] W λe w'=>∃t c3,e=k_ (a_ t M c3)/\x_ (Par.Own w' W 5 (a_ t M c3) (l_ (aw g aJ)))/\x_ (J5 w st.aa (a_ A n c) (g:Nat) (a_ O U V) (a_ Ar X cr) w')/\(w'.cell? ⟨w,0,b_⟩=c_ (e_ d_ st.aa)/\w'.cell? ⟨w,1,b_⟩=c_ (a_ A n c))/\w.heap.size<w'.heap.size/\x_ (n_ W W w')):=Z_ λW hW=>by
  have cE:=hW.below;have hz:=hW.size;refine(mz g hg _ aJ W ((HV.o.below cE).more O_) O_).mono ?_;rintro e w' ⟨t,c3,rfl,ho,G⟩;have h2:=hW.go G;obtain⟨x0,x1,-⟩:=h2.cells;rw[<-HM.o]at ho⊢;exact⟨t,c3,rfl,Z_ ho,Z_ h2,⟨x0,x1⟩,by have:=h2.size;omega,Z_ G⟩
 obtain⟨R,hR⟩:=N_ (br st aK (aw g aJ));have bn:x_ (∀(W:j_) (u3:m_),J5 w st.aa (a_ A n c) (g:Nat) (a_ O U V) (a_ Ar X cr) W->al (·<W.heap.size) W u3 [aw g aJ]->H_ h_ 14 #[JI #[e_ d_ st.aa,a_ A n c],g_ ⟨#[108,111,103]⟩,u3] W λe w'=>∃A2 D c2,e=k_ (J_ #[JI #[e_ d_ R.1.aa,a_ A2 D c2],e_ d_ R.2])/\x_ (J5 w st.aa (a_ A n c) (g:Nat) (a_ O U V) (a_ Ar X cr) w')/\x_ (aA (fO S W w') w' (a_ A2 D c2) R.1.files)/\x_ (n_ W W w')/\x_ (w.heap.size+2<=W.heap.size)):=Z_ λW u3 cv hr=>by
  have eo:=cv.size;refine(pr st hp _ S _ (λb G=>by have:=HS.o b G;omega) (H.o.gu HS.o cv.below).ref aK (by decide) hl hd _ [aw g aJ] hr (by simp;rw[<-HM.o];omega)).mono ?_;rintro e w' ⟨v',rfl,g1,g2⟩;have ev:[aw g aJ].flatten=aw g aJ:=by simp
  simp only[ev]at g1⊢;rw[<-hR]at g1⊢;obtain⟨A2,c2,rfl,-,-⟩:=g1.form;exact⟨A2,_,c2,rfl,Z_ (cv.go g2),Z_ g1,Z_ g2,Z_ eo⟩
 have bo:x_ (aQ st g rest aJ=(R.1,R.2,if R.2=0 then rest++[aJ]else rest)):=Z_ (by unfold aQ;rw[<-hR]);have eA:=Z_ cB;clear h0 h hS hd hv hM cB hR;obtain⟨P,hP⟩:=N_ (fB w S ((aQ st g rest aJ).1,(aQ st g rest aJ).2.1) (g:Nat) base (aQ st g rest aJ).2.2);rw[<-hP];have HP:=Z_ hP;clear hP;obtain⟨T,er⟩:=R;simp only at bo;have e8:¬(65536:Int)<(aJ.length:Int):=by omega
 go_enter Tryz.func69,Tryz.ntmps69;obtain⟨x0,x1,x2,x3,x4,x5,x6,x7,x8,x9,ak,av,a1,a2,ba,bb,bd,bf,bg,bj⟩:=H0.o.cells;go_upto_region 3 with fail;have cF:=Z_ (H0.o.go (B_.drew));have c7:=Z_ ((H0.o.go (ah _ (f_ #[e_ d_ 0,a_ b_ 0 0] 33))).go (B_.drew));have c8:x_ (im (w.heap.size+1+1) ((((w.alloc (f_ #[e_ d_ st.aa,a_ A n c,e_ d_ (g:Nat),a_ O U V,a_ Ar X cr] 44)).alloc (f_ #[e_ d_ 0,a_ b_ 0 0,e_ d_ 0,a_ b_ 0 0,a_ b_ 0 0] 44)).alloc (f_ #[e_ d_ 0,a_ b_ 0 0] 33)).drew)):=Z_ (by
  have:=im.new ((w.alloc (f_ #[e_ d_ st.aa,a_ A n c,e_ d_ (g:Nat),a_ O U V,a_ Ar X cr] 44)).alloc (f_ #[e_ d_ 0,a_ b_ 0 0,e_ d_ 0,a_ b_ 0 0,a_ b_ 0 0] 44));simp only[JQ]at this;exact this)
 have Y:∀(W:j_) (t:Option Kb) (c3:Nat) (B x:Nat),x=W.heap.size->Par.Own W B 5 (a_ t M c3) (l_ (aw g aJ))->al (·<(W.alloc (f_ #[a_ t M c3] 24)).heap.size) (W.alloc (f_ #[a_ t M c3] 24)) (a_ (c_ ⟨x,0,b_⟩) 1 1) [aw g aJ]:=λW t c3 B x hx ho=>
  (al.Hg (F:=λ_=>False) (λj hj=>hj.elim) (a8.ae (S:=(·<W.heap.size)) (S':=Out W λ_=>False) (Own.dH ho) λj hj=>⟨⟨hj,λhf=>hf⟩,rfl⟩) x hx).sub λj hj=>hj.1
 have bp:=Z_ Y;have bt:x_ (∀(W:j_) (t:Option Kb) (c3:Nat) (B:Nat) (o:Obj),Par.Own W B 5 (a_ t M c3) (l_ (aw g aJ))->al (·<((W.alloc (f_ #[a_ t M c3] 24)).alloc o).heap.size) ((W.alloc (f_ #[a_ t M c3] 24)).alloc o) (a_ (c_ ⟨W,0,b_⟩) 1 1) [aw g aJ]):=Z_ λW t c3 B o ho=>(Y W t c3 B _ rfl ho).ae λb G=>⟨by simp at G⊢;omega,(ah _ _).block b G⟩
 have bx:x_ (∀(W:j_) (t:Option Kb) (c3:Nat) (B:Nat) (o:Obj),Par.Own W B 5 (a_ t M c3) (l_ (aw g aJ))->al (·<((W.alloc o).alloc (f_ #[a_ t M c3] 24)).heap.size) ((W.alloc o).alloc (f_ #[a_ t M c3] 24)) (a_ (c_ ⟨W+1,0,b_⟩) 1 1) [aw g aJ]):=Z_ λW t c3 B o ho=>Y (W.alloc o) t c3 B _ (by simp) (ho.alloc o)
 clear Y
 go_cut [6,7] (λf6 e7 wx=>∃(b:Nat) (A2:Option Kb) (D c2:Nat),f6=.pointer (c_ ⟨b,0,b_⟩)/\e7=e_ d_ er/\x_ (hZ S w T st.aa (g:Nat) (a_ A n c) (a_ O U V) (a_ Ar X cr) b (a_ A2 D c2) wx))
 case first=>
  go_region_with (first
   |(go_at_call 113;(with_reducible refine(ct.o _ c7.o).mono ?_);rintro e w5 ⟨t,c3,rfl,bB,I,⟨y0,y1⟩,y2,HB5⟩;have c9:=Z_ (c8.o.go HB5.o);have HX:=Z_ (KM (Kh (w+2)) (show w.heap.size+1+1<w5.heap.size+1 by have:=HB5.o.size;simp at this;omega));obtain⟨z0,z1,z2,z3⟩:=c9.o.cells)
   |(go_at_call 113;(with_reducible refine(ct.o _ cF.o).mono ?_);rintro e w5 ⟨t,c3,rfl,bB,I,⟨y0,y1⟩,y2,HB5⟩)
   |(go_at_call 14;(with_reducible refine(bn.o _ _ (I.o.go (ah _ _)) (bp.o _ _ _ _ _ rfl bB.o)).mono ?_);rintro e w6 ⟨A2,D,c2,rfl,bN,bO,HB6,cf⟩;have bk:=Z_ ((c9.o.go (ah _ _)).go HB6.o);have cg:=Z_ (KM HX.o.1 (show w.heap.size+1+1<(w5.alloc (f_ #[a_ t M c3] 24)).heap.size by have:=HX.o.2;simpa using this));obtain⟨t0,t1,t2,t3⟩:=bk.o.cells)
   |(go_at_call 14;(with_reducible refine(bn.o _ _ (I.o.go (ah _ _)) (bp.o _ _ _ _ _ rfl bB.o)).mono ?_);rintro e w6 ⟨A2,D,c2,rfl,bN,bO,HB6,cf⟩)
   |(go_at_call 14;(with_reducible refine(bn.o _ _ ((I.o.go (ah _ _)).go (ah _ _)) (bt.o _ _ _ _ _ bB.o)).mono ?_);rintro e w6 ⟨A2,D,c2,rfl,bN,bO,HB6,cf⟩;have bk:x_ (im (w5+1) w6):=Z_ (im.go (by have:=im.new (w5.alloc (f_ #[a_ t M c3] 24));simp only[JQ]at this;exact this) HB6.o);have cg:=Z_ (KM (show w.heap.size+2<=w5.heap.size+1 by have:=I.o.size;omega) (show w5.heap.size+1<((w5.alloc (f_ #[a_ t M c3] 24)).alloc (f_ #[e_ d_ 0,a_ b_ 0 0] 33)).heap.size by simp));obtain⟨t0,t1,t2,t3⟩:=bk.o.cells)
   |(go_at_call 14;(with_reducible refine(bn.o _ _ ((I.o.go (ah _ _)).go (ah _ _)) (bx.o _ _ _ _ _ bB.o)).mono ?_);rintro e w6 ⟨A2,D,c2,rfl,bN,bO,HB6,cf⟩;have bk:x_ (im (w5.heap.size) w6):=Z_ (((im.new w5).go (ah _ (f_ #[a_ t M c3] 24))).go HB6.o);have cg:=Z_ (KM (show w.heap.size+2<=w5.heap.size from I.o.size) (show w5.heap.size<((w5.alloc (f_ #[e_ d_ 0,a_ b_ 0 0] 33)).alloc (f_ #[a_ t M c3] 24)).heap.size by simp;omega));obtain⟨t0,t1,t2,t3⟩:=bk.o.cells))
  all_goals(
   go_wp2_with fail;go_meet;first
   |exact⟨_,A2,D,c2,rfl,rfl,Z_ (hZ.early HS.o bN.o bO.o bk.o cg.o.1 cg.o.2)⟩
   |exact⟨_,A2,D,c2,rfl,rfl,Z_ (hZ.late HS.o bN.o bO.o cf.o)⟩)
 obtain⟨b,A2,D,c2,rfl,rfl,bm⟩:=hcut;clear x0 x1 x2 x3 x4 x5 x6 x7 x8 x9 ak av a1 a2 ba bb bd bf bg bj cF c7 c8 bp bt bx ct bn H0;obtain⟨x0,x1,x2,x3,x4,x5,x6,x7,x8,x9,ak,av,a1,a2,ba,bb,bd,bf,bg,bj⟩:=bm.o.j5.cells;obtain⟨t0,t1,t2,t3⟩:=bm.o.cells;have J:=Z_ (bm.o.j5.files T.aa (a_ A2 D c2));have bR:x_ (sh (jo S w ((wc.setCell ⟨w,0,b_⟩ (e_ d_ T.aa)).setCell ⟨w,1,b_⟩ (a_ A2 D c2))) ((wc.setCell ⟨w,0,b_⟩ (e_ d_ T.aa)).setCell ⟨w,1,b_⟩ (a_ A2 D c2)) T.files base rest (a_ A2 D c2) (a_ O U V) (a_ Ar X cr)):=Z_ (by
  have g2:=iz HS.o bm.o.j5.size (sI w wc (e_ d_ T.aa) (a_ A2 D c2) 0 1) (λk hk=>.inl hk);have h1:=H.o.gu HS.o bm.o.j5.below;exact⟨(bm.o.ref.sub λb G=>G.1).ae g2,(h1.rb.sub λb G=>.inl G).ae g2,(h1.rr.sub λb G=>.inl G).ae g2⟩)
 by_cases he:er=0
 case neg=>
  have e9:(er !=0)=true:=by simpa using he
  have HE:x_ (aQ st g rest aJ=(T,er,rest)):=Z_ (by rw[bo.o,I_ he]);clear he bo;go_wp2;refine C_ (v:=J_ #[JI #[e_ d_ T.aa,a_ A2 D c2,e_ d_ g,a_ O U V,a_ Ar X cr],e_ d_ er]) (by simp[results,Tryz.results69,go_sem,x0,x1,x2,x3,x4,x5,x6,x7,x8,x9,ak,av,a1,a2,ba,bb,bd,bf,bg,bj]) rfl ?_;rw[HP.o,HE.o];exact J.o.fin HS.o bR.o
 subst he;have HE:x_ (aQ st g rest aJ=(T,0,rest++[aJ])):=Z_ (by rw[bo.o,G_ rfl]);have df:X=rest.length:=by
  obtain⟨_,_,hf,-⟩:=(bR.o.rr.sub (S':=(·<((wc.setCell ⟨w,0,b_⟩ (e_ d_ T.aa)).setCell ⟨w,1,b_⟩ (a_ A2 D c2)).heap.size)) λb G=>uz HS.o J.o.size b G).open_;injection hf
 have dv:=Z_ (jd (a_ Ar X cr) rest _ ((wc.setCell ⟨w,0,b_⟩ (e_ d_ T.aa)).setCell ⟨w,1,b_⟩ (a_ A2 D c2)) (bR.o.rr.sub λb G=>uz HS.o J.o.size b G) L_ O_ eA.o);have fb:=Z_ df;clear bo df;go_wp2_with fail;refine dv.o.mono ?_;rintro e w4 ⟨u,us,rfl,hx⟩;obtain⟨Au,cu,K⟩:=hx.own.form;rw[hx.len]at K;obtain⟨N,hN⟩:=N_ (rest.length);rw[<-hN]at K;have fi:N<=1000000:=by rw[hN];exact en
 have HN:=Z_ hN;have HX:=Z_ hx;have b1:=Z_ (J.o.go hx.below);clear hx hN dv x0 x1 x2 x3 x4 x5 x6 x7 x8 x9 ak av a1 a2 ba bb bd bf bg bj t0 t1 t2 t3;subst K;have eb:x_ (bw w4 w (a_ Ap aJ.length cp) (l_ aJ)):=Z_ (HV.o.below b1.o.below);have eC:w.heap.size<=w4.heap.size:=b1.o.below.size;have e4:w.heap.size<w4.heap.size:=by have:=b1.o.size;omega
 go_wp2_with fail;refine(cY _ aJ w w4 eb.o eC O_).mono ?_;rintro e w5 ⟨u5,rfl,ch,b3⟩;obtain⟨A5,c5,rfl⟩:=Own.Dj ch;have b5:=(HX.o.own.below b3).alloc (f_ #[a_ A5 aJ.length c5] 24);have ck:=eB (Own.jf ch (F:=λ_=>False) (λ_ h=>h.elim));have cl:=bw.new w5 24 #[a_ A5 aJ.length c5] [a_ A5 aJ.length c5] rfl (by simp[maxLen]);have ec:=Z_ ch;have HB5:=Z_ b3;have fr:=b3.size;have e0:=HX.o.below.size;have hlen:=HX.o.len;rw[<-HN.o]at hlen;have e1:=Z_ (b1.o.go b3);clear ch b3 eb;go_wp2_with (at_builtin;refine aE _ rfl _ _ _ rfl ((wc.setCell ⟨w,0,b_⟩ (e_ d_ T.aa)).setCell ⟨w,1,b_⟩ (a_ A2 D c2)).heap.size 24 _ j8 _ _ rfl b5 _ _ _ rfl cl (λx hx=>by simp at hx;subst hx;exact ck) ?c1 ?c2 ?_)
 case c1=>simp;omega
 case c2=>simp at e0⊢;omega
 intro v6 w6 b6 ee cm;have Z:Par.Own w6 ((wc.setCell ⟨w,0,b_⟩ (e_ d_ T.aa)).setCell ⟨w,1,b_⟩ (a_ A2 D c2)).heap.size 24 v6 (us++[a_ A5 aJ.length c5]):=by simpa using b6
 have cc:=(HX.o.toRowed.more aJ).next HB5.o (by rw[fF];exact ec.o) _ Z ee cm;obtain⟨A6,c6,ad⟩:=cc.own.form;obtain⟨N6,eg⟩:=N_ ((us++[a_ A5 aJ.length c5]).length);rw[<-eg]at ad;have cd:=cc.cast (by simp:rest.length+1=(rest++[aJ]).length)|>.rows
 have cx:=Z_ (J.o.go cc.below);have e2:=Z_ (cx.o.Ik (a_ A6 N6 c6));subst ad;have e3:x_ (sh (jo S w (w6.setCell ⟨w,4,b_⟩ (a_ A6 N6 c6))) (w6.setCell ⟨w,4,b_⟩ (a_ A6 N6 c6)) T.files base (rest++[aJ]) (a_ A2 D c2) (a_ O U V) (a_ A6 N6 c6)):=Z_ (by
  have g1:=iz HS.o J.o.size (Kept.ar (F:=λ_=>False) cc.below) (λk hk=>hk.elim);have g2:=iz HS.o cx.o.size (xz w w6 (a_ A6 N6 c6) 4) (λk hk=>.inl hk);have hz:=J.o.size;exact⟨(bR.o.ref.ae g1).ae g2,(bR.o.rb.ae g1).ae g2,(cd.sub (S':=jo S w w6) λb G=>.inr ⟨by have:=G.1;omega,G.2⟩).ae g2⟩)
 clear cc cd b6 Z ee cm b5 ck cl ec HB5 b1 e1 HX eg;obtain⟨x0,x1,x2,x3,x4,x5,x6,x7,x8,x9,ak,av,a1,a2,ba,bb,bd,bf,bg,bj⟩:=cx.o.cells;go_wp2;refine C_ (v:=J_ #[JI #[e_ d_ T.aa,a_ A2 D c2,e_ d_ g,a_ O U V,a_ A6 N6 c6],e_ d_ 0]) (by simp[results,Tryz.results69,go_sem,x0,x1,x2,x3,x4,x5,x6,x7,x8,x9,ak,av,a1,a2,ba,bb,bd,bf,bg,bj]) rfl ?_;rw[HP.o,HE.o];exact e2.o.fin HS.o e3.o
open Go.RowKit Go.Lib Go.Vfs Go.Par Go.Typ Go.Shelf Go.Ix
theorem kS(E:En)(X:∀x∈E.aI,qj x)(v:m_)(w:j_)(hX:bW (·<w.heap.size) w v E):H_ h_ 39 #[v] w (gm E w):=by
 obtain⟨A,c,rfl,hn,hX⟩:=hX;obtain⟨P,hP⟩:=N_ (gm E w);have Z:=Z_ hP;rw[<-hP];clear hP;obtain⟨A0,c0,e0,hc,hm⟩:=hX.form;injection e0 with e1 _ e2;subst e1 e2;obtain⟨W1,Y⟩:=N_ (w.alloc (f_ #[g_ E.uri,e_ d_ E.bu,a_ A E.aI.length c] 55));have bk:n_ w w W1:=by rw[Y];exact B_.alloc L_ _
 have bm:W1.heap.size=w.heap.size+1:=by rw[Y];simp
 have bn:W1.heap[w.heap.size]?=c_ (f_ #[g_ E.uri,e_ d_ E.bu,a_ A E.aI.length c] 55 (0,0)):=by
  rw[Y];exact r_ _ _
 have bo:=Z_ (lT E.aI X _ W1 (hX.fl bk));have cr:=Z_ bk;have ct:=Z_ bm;have bO:=Z_ bn;obtain⟨y0,y1,y2⟩:=aR bn;rw[Y]at y0 y1 y2;clear hX hm bk bm bn X;unfold eV;go_enter Tryz.func39,Tryz.ntmps39;go_wp2_with fail;rw[<-Y]at y0 y1 y2⊢;clear Y;obtain⟨z,hz⟩:∃z:Int,z=if aM E.aI=true then 0 else 140:=⟨_,rfl⟩;unfold gZ at bo;rw[<-hz]at bo;have HZ:=Z_ hz;clear hz;refine bo.o.mono ?_;rintro e w3 ⟨v3,rfl,J,D,ad⟩;have cu:=J.size;have bm:=ct.o;have K:x_ (n_ w w w3):=Z_ (cr.o.trans (J.mono O_));have t:=(J.block _ O_).trans bO.o;have cv:=Z_ (xq E.uri hn w3);clear y0 y1 y2;obtain⟨y0,y1,y2⟩:=aR t;go_wp2_with fail;refine cv.o.mono ?_;rintro e w2 ⟨rfl,rfl⟩;by_cases hu:dy E.uri=true
 rotate_left
 ·have bp:dy E.uri=false:=by simpa using hu
  have HE:x_ (P (k_ (J_ #[a_ b_ 0 0,e_ d_ 200])) w2):=Z_ (by
   rw[Z.o];exact gH (by unfold gF;rw[bp];rfl) K.o)
  rw[bp];clear hu bp D ad J;go_wp2;exact HE.o
 by_cases cx:E.bu<0
 ·have HE:x_ (P (k_ (J_ #[a_ b_ 0 0,e_ d_ 200])) w2):=Z_ (by
   rw[Z.o];exact gH (by unfold gF nJ;rw[show decide (0<=E.bu/\E.bu<1073741824)=o_ by simp;omega];simp) K.o)
  rw[hu];clear hu D ad J;go_wp2;exact HE.o
 by_cases cB:1073741824<=E.bu
 ·have HE:x_ (P (k_ (J_ #[a_ b_ 0 0,e_ d_ 200])) w2):=Z_ (by
   rw[Z.o];exact gH (by unfold gF nJ;rw[show decide (0<=E.bu/\E.bu<1073741824)=o_ by simp;omega];simp) K.o)
  rw[hu];clear hu D ad J;go_wp2;exact HE.o
 by_cases hr:aM E.aI=true
 rotate_left
 ·have bt:aM E.aI=false:=by simpa using hr
  have HE:x_ (P (k_ (J_ #[a_ b_ 0 0,e_ d_ 200])) w2):=Z_ (by
   rw[Z.o];exact gH (by unfold gF;rw[bt];simp) K.o)
  have hz:(z !=0)=true:=by rw[HZ.o,bt];rfl
  rw[hu];clear hr bt D ad J hu;go_wp2;exact HE.o
 have HU:=Z_ hu;rw[hu];clear hu;have X:gF E=true:=by unfold gF nJ;rw[HU.o,hr];simp;omega
 have bx:=Z_ X;have cE:E.uri.size<=64:=(eP X).2;have D:=D hr;have hz:z=0:=by rw[HZ.o,hr];rfl
 subst hz;obtain⟨A3,c3,rfl⟩:=D.form;obtain⟨w3,rfl⟩:∃w3:j_,w3=w2:=⟨_,rfl⟩;obtain⟨W4,a1⟩:=N_ (w3.alloc (f_ #[e_ KD 1,e_ KD (E.uri.size:Int)] 5));have a2:n_ w3 w3 W4:=by rw[a1];exact B_.alloc L_ _
 have ak:Par.Own W4 w3 5 (a_ (c_ ⟨w3,0,b_⟩) 2 2) (l_ [1,E.uri.size.toUInt8]):=by
  rw[a1];have h:=Par.Own.new w3 w3 5 #[e_ KD 1,e_ KD (E.uri.size:Int)] (l_ [1,E.uri.size.toUInt8]) (jQ 1 E.uri.size O_) L_ (by simp[l_,maxLen]);simpa[l_]using h
 have cF:KD.wrap (E.uri.size:Int)=(E.uri.size:Int):=by unfold Lg;simp[KQ,KZ];omega
 obtain⟨cap,w4,bR,M,av,b1⟩:=nX E.uri W4 O_;have U:Par.Own w4 w3 5 (a_ (c_ ⟨w3,0,b_⟩) 2 2) (l_ [1,E.uri.size.toUInt8]):=ak.below av;have c7:=Z_ D;have bB:x_ (n_ w3 w3 w4):=Z_ (a2.trans (av.mono a2.size));have b3:w3.heap.size<=w4.heap.size:=bB.o.size;have bb:=Z_ ((bB.o.block _ (ao t)).trans t);have b5:=Z_ ((a2.block _ (ao t)).trans t);obtain⟨z0,z1,z2⟩:=aR b5.o;have bd:W4.heap.size=w3.heap.size+1:=by rw[a1];simp
 rw[bd]at bR M;rw[a1]at z0 z1 z2 bR;have V:=Z_ U;have b6:=Z_ M;have c8:(l_ E.uri.data.toList).length=E.uri.size:=by rw[t_];exact eX E.uri
 clear hr X J ad t D a2 av b1 U M ak bd;go_upto_region 5 with(at_builtin;refine aE _ rfl _ _ _ rfl w3 5 _ fD _ _ rfl V.o _ _ _ rfl b6.o (aZ _) ?c1 ?c2 ?_)
 case c1=>rw[c8];simp[l_];omega
 case c2=>exact b3
 intro v5 w5 j bN cb;rw[<-byteCells_append]at j;obtain⟨A5,c5,rfl⟩:=j.form;have bf:=(bN.block w (ao bb.o) (λe=>by simp[Value.ownBlock]at e;have:=ao bO.o;have:=cu;omega)).trans bb.o;have cc:x_ (n_ w3 w3 w5):=Z_ (bB.o.grown bN b3 (λk e=>(V.o.lt k e).1));have c9:=cc.o.size;obtain⟨I,cd⟩:∃I:Nat,E.bu=(I:Int):=⟨E.bu.toNat,by omega⟩;have df:=Z_ cd;have ec:I<1073741824:=by omega
 have bg:bw (w5.alloc (f_ #[e_ KD ((I:Int)/16777216),e_ KD ((I:Int)/65536%256),e_ KD ((I:Int)/256%256),e_ KD ((I:Int)%256)] 5)) (w5+1) (a_ (c_ ⟨w5,0,b_⟩) 4 4) (l_ (eK I)):=by
  have h:=bw.new w5 5 #[e_ KD ((I:Int)/16777216),e_ KD ((I:Int)/65536%256),e_ KD ((I:Int)/256%256),e_ KD ((I:Int)%256)] (l_ (eK I)) (by
   rw[ll I O_,show(I:Int)/16777216%256=(I:Int)/16777216 by omega]) (by rw[t_,bz];simp[maxLen])
  rw[t_,bz]at h;exact h
 have bj:∀o,Par.Own (w5.alloc o) w3 5 (a_ A5 (l_ ([1,E.uri.size.toUInt8]++E.uri.data.toList)).length c5) (l_ ([1,E.uri.size.toUInt8]++E.uri.data.toList)):=λo=>j.alloc o
 have hu:=eX E.uri;have dv:=Z_ cE;have eb:=Z_ j;obtain⟨x0,x1,x2⟩:=aR bf;rw[cd]at x1;clear y0 y1 y2 z0 z1 z2 j bf cF bN cb cx cB;go_upto_region 6 with(at_builtin;refine aE _ rfl _ _ _ rfl w3 5 _ fD _ _ rfl (bj _) _ _ _ rfl bg (aZ _) ?c1 ?c2 ?_)
 case c1=>simp[l_,eK];omega
 case c2=>simp;omega
 intro v6 w6 G cf cg;rw[<-byteCells_append]at G;obtain⟨A6,c6,rfl⟩:=G.form;have ch:n_ w3 w5 w6:=bK B_ c9 _ cf (λg e=>(eb.o.lt g e).1);have ba:n_ w3 w3 w6:=cc.o.trans ch;have ck:=(c7.o.below ba).dH;have HB6:=Z_ ba;have cl:=ba.size;have hlen:(l_ (([1,E.uri.size.toUInt8]++E.uri.data.toList)++eK I)).length+(l_ (et E.aI)).length<=2147483648:=by
  have:=qS (ia bx.o);have:=dv.o;simp only[t_,p_,bz,Jz,JP,hu];omega
 clear ba bg cf cg x0 x1 x2 bj;go_wp2_with (at_builtin;refine aE _ rfl _ _ _ rfl w3 5 _ fD _ _ rfl G _ _ _ rfl ck (aZ _) hlen cl ?_;intro v7 w7 O cm cp);rw[<-byteCells_append]at O;have HE:x_ (P (k_ (J_ #[v7,e_ d_ 0])) w7):=Z_ (by
  rw[Z.o];refine⟨v7,by rw[bx.o];rfl,K.o.trans ((HB6.o.grown cm cl (λg e=>(G.lt g e).1)).mono K.o.size),λ_=>?_,λh=>(by rw[bx.o]at h;cases h)⟩;have:aN E=(([1,E.uri.size.toUInt8]++E.uri.data.toList)++eK I)++et E.aI:=by
   unfold aN;rw[df.o,Lh];simp only[JU]
  rw[this];exact O.base K.o.size)
 clear O cm cp;go_wp2;exact HE.o
structure B6(w:j_)(n b0 b2:Nat)(pw gen:Int)(fv bv rv lv:m_)(W:j_):Prop where
 below:n_ w.heap.size w W
 size:w.heap.size+n<=W.heap.size
 l0:w.heap.size<=b0/\b0<w.heap.size+n
 l2:w.heap.size<=b2/\b2<w.heap.size+n
 ne:b0≠b2
 hx:W.heap[b0]?=c_ (f_ #[e_ d_ pw,fv,e_ d_ gen,bv,rv,lv] 47 (0,0))
 hr:W.heap[b2]?=c_ (f_ #[e_ d_ 0,a_ b_ 0 0,e_ d_ 0,a_ b_ 0 0,a_ b_ 0 0,a_ b_ 0 0] 47 (0,0))
def TB(S:Nat->Prop)(w:j_)(n:Nat)(W:j_)(b:Nat):Prop:=S b\/(w.heap.size+n<=b/\b<W.heap.size)
section
variable{w W W':j_}{n b0 b2:Nat}{pw gen:Int}{fv bv rv lv:m_}{S:Nat->Prop}
theorem TB.lt(hS:∀b,S b->b<w.heap.size)(j:w.heap.size+n<=W.heap.size){b:Nat}(h:TB S w n W b):b<W:=by
 rcases h with h|h
 ·have:=hS b h;omega
 exact h.2
theorem TB.go(hS:∀b,S b->b<w.heap.size)(t:w.heap.size+n<=W.heap.size)(j:n_ W W W')(b:Nat)(h:TB S w n W b):TB S w n W' b/\W'.heap[b]?=W.heap[b]?:=by
 have D:=TB.lt hS t h;have:=j.size;exact⟨h.imp id λh=>⟨h.1,by omega⟩,j.block b D⟩
theorem TB.kept(hS:∀b,S b->b<w.heap.size)(t:w.heap.size+n<=W.heap.size){F:Nat->Prop}(j:Kept F W W')(D:∀k,F k->w.heap.size<=k/\k<w.heap.size+n)(b:Nat)(h:TB S w n W b):TB S w n W' b/\W'.heap[b]?=W.heap[b]?:=by
 have G:=TB.lt hS t h;have:=j.size;refine⟨h.imp id λh=>⟨h.1,by omega⟩,j.block b G λI=>?_⟩;have:=D b I;rcases h with h|h
 ·have:=hS b h;omega
 omega
theorem TB.new(t:w.heap.size+n<=W.heap.size)(j:W.heap.size<=W'.heap.size)(b:Nat)(h:fO (TB S w n W) W W' b):TB S w n W' b:=by
 rcases h with(h|h)|h
 ·exact .inl h
 ·exact .inr ⟨h.1,by omega⟩
 exact .inr ⟨by omega,h.2⟩
theorem TB.fin(b:Nat)(h:TB S w n W b):fO S w W b:=h.imp id λh=>⟨by omega,h.2⟩
theorem B6.go(h:B6 w n b0 b2 pw gen fv bv rv lv W)(j:n_ W W W'):B6 w n b0 b2 pw gen fv bv rv lv W':=by
 have D:=h.size;have h1:=h.l0;have h2:=h.l2;have t:=j.size;exact⟨h.below.trans (j.mono O_),by omega,h1,h2,h.ne,(j.block _ O_).trans h.hx,(j.block _ O_).trans h.hr⟩
theorem B6.cK(h:B6 w n b0 b2 pw gen fv bv rv lv W):
  W.cell? ⟨b0,0,b_⟩=c_ (e_ d_ pw)/\W.cell? ⟨b0,1,b_⟩=c_ fv/\W.cell? ⟨b0,2,b_⟩=c_ (e_ d_ gen)/\W.cell? ⟨b0,3,b_⟩=c_ bv/\W.cell? ⟨b0,4,b_⟩=c_ rv/\W.cell? ⟨b0,5,b_⟩=c_ lv:=by
 have hx:=h.hx;simp[E_,hx]
theorem B6.iZ(h:B6 w n b0 b2 pw gen fv bv rv lv W):
  W.frozen? ⟨b0,0,b_⟩=o_/\W.frozen? ⟨b0,1,b_⟩=o_/\W.frozen? ⟨b0,2,b_⟩=o_/\W.frozen? ⟨b0,3,b_⟩=o_/\W.frozen? ⟨b0,4,b_⟩=o_/\W.frozen? ⟨b0,5,b_⟩=false:=by
 have hx:=h.hx;simp[JW,hx]
theorem B6.gP(h:B6 w n b0 b2 pw gen fv bv rv lv W):
  (W.cell? ⟨b2,0,b_⟩=c_ (e_ d_ 0)/\W.cell? ⟨b2,1,b_⟩=c_ (a_ b_ 0 0)/\W.cell? ⟨b2,2,b_⟩=c_ (e_ d_ 0)/\W.cell? ⟨b2,3,b_⟩=c_ (a_ b_ 0 0)/\W.cell? ⟨b2,4,b_⟩=c_ (a_ b_ 0 0)/\W.cell? ⟨b2,5,b_⟩=c_ (a_ b_ 0 0))/\
  (W.frozen? ⟨b2,0,b_⟩=o_/\W.frozen? ⟨b2,1,b_⟩=o_/\W.frozen? ⟨b2,2,b_⟩=o_/\W.frozen? ⟨b2,3,b_⟩=o_/\W.frozen? ⟨b2,4,b_⟩=o_/\W.frozen? ⟨b2,5,b_⟩=o_):=by
 have hr:=h.hr;simp[E_,JW,hr]
theorem rS(b:Nat)(W:j_)(a0 j t a3 a4 a5:m_):Kept (·=b) W ((((((W.setCell ⟨b,0,b_⟩ a0).setCell ⟨b,1,b_⟩ j).setCell ⟨b,2,b_⟩ t).setCell ⟨b,3,b_⟩ a3).setCell ⟨b,4,b_⟩ a4).setCell ⟨b,5,b_⟩ a5):=
 Kept.setCell (F:=(·=b)) (p:=⟨b,5,b_⟩) (Kept.setCell (F:=(·=b)) (p:=⟨b,4,b_⟩) (Kept.setCell (F:=(·=b)) (p:=⟨b,3,b_⟩) (Kept.setCell (F:=(·=b)) (p:=⟨b,2,b_⟩) (Kept.setCell (F:=(·=b)) (p:=⟨b,1,b_⟩) (Kept.setCell (F:=(·=b)) (p:=⟨b,0,b_⟩) (Kept.refl _ _) (.inl rfl) _) (.inl rfl) _) (.inl rfl) _) (.inl rfl) _) (.inl rfl) _) (.inl rfl) _
theorem td(b:Nat)(W:j_)(a0 j t a3 a4:m_):Kept (·=b) W (((((W.setCell ⟨b,0,b_⟩ a0).setCell ⟨b,1,b_⟩ j).setCell ⟨b,2,b_⟩ t).setCell ⟨b,3,b_⟩ a3).setCell ⟨b,4,b_⟩ a4):=
 Kept.setCell (F:=(·=b)) (p:=⟨b,4,b_⟩) (Kept.setCell (F:=(·=b)) (p:=⟨b,3,b_⟩) (Kept.setCell (F:=(·=b)) (p:=⟨b,2,b_⟩) (Kept.setCell (F:=(·=b)) (p:=⟨b,1,b_⟩) (Kept.setCell (F:=(·=b)) (p:=⟨b,0,b_⟩) (Kept.refl _ _) (.inl rfl) _) (.inl rfl) _) (.inl rfl) _) (.inl rfl) _) (.inl rfl) _
theorem B6.ret(h:B6 w n b0 b2 pw gen fv bv rv lv W):∃j,j=((((((W.setCell ⟨b2,0,b_⟩ (e_ d_ pw)).setCell ⟨b2,1,b_⟩ fv).setCell ⟨b2,2,b_⟩ (e_ d_ gen)).setCell ⟨b2,3,b_⟩ bv).setCell ⟨b2,4,b_⟩ rv).setCell ⟨b2,5,b_⟩ lv)/\
  (j.cell? ⟨b2,0,b_⟩=c_ (e_ d_ pw)/\j.cell? ⟨b2,1,b_⟩=c_ fv/\j.cell? ⟨b2,2,b_⟩=c_ (e_ d_ gen)/\j.cell? ⟨b2,3,b_⟩=c_ bv/\j.cell? ⟨b2,4,b_⟩=c_ rv/\j.cell? ⟨b2,5,b_⟩=c_ lv)/\Kept (·=b2) W j:=by
 have D:=ai (ai (ai (ai (ai (ai h.hr 0 (e_ d_ pw)) 1 fv) 2 (e_ d_ gen)) 3 bv) 4 rv) 5 lv;refine⟨_,rfl,?_,rS _ _ _ _ _ _ _ _⟩;have t:=D;simp only[JE,J0,J3]at t;simp[E_,t]
theorem B6.sI(h:B6 w n b0 b2 pw gen fv bv rv lv W)(t j:Int)(D G I:m_):∃K,K=(((((W.setCell ⟨b0,0,b_⟩ (e_ d_ t)).setCell ⟨b0,1,b_⟩ D).setCell ⟨b0,2,b_⟩ (e_ d_ j)).setCell ⟨b0,3,b_⟩ G).setCell ⟨b0,4,b_⟩ I)/\B6 w n b0 b2 t j D G I lv K/\Kept (·=b0) W K:=by
 have M:=ai (ai (ai (ai (ai h.hx 0 (e_ d_ t)) 1 D) 2 (e_ d_ j)) 3 G) 4 I;have J:=td b0 W (e_ d_ t) D (e_ d_ j) G I;simp only[JE,J0,J3]at M;have U:=h.size;have h1:=h.l0;have h2:=h.l2;have O:=J.size;exact⟨_,rfl,⟨h.below.trans (J.below O_ (λk J=>by omega)),by omega,h1,h2,h.ne,M,(J.block _ O_ (λe=>h.ne e.symm)).trans h.hr⟩,J⟩
theorem B6.xA(h:B6 w n b0 b2 pw gen fv bv rv lv W)(u:m_):B6 w n b0 b2 pw gen fv bv rv u (W.setCell ⟨b0,5,b_⟩ u)/\Kept (·=b0) W (W.setCell ⟨b0,5,b_⟩ u):=by
 have j:Kept (·=b0) W (W.setCell ⟨b0,5,b_⟩ u):=(Kept.refl (·=b0) _).setCell (p:=⟨b0,5,b_⟩) (.inl rfl) _;have G:=h.size;have h1:=h.l0;have h2:=h.l2;have D:=j.size;have t:=ai h.hx 5 u;simp only[JE,J0,J3]at t;exact⟨⟨h.below.trans (j.below O_ (λk j=>by omega)),by omega,h1,h2,h.ne,t,(j.block _ O_ (λe=>h.ne e.symm)).trans h.hr⟩,j⟩
end
structure mE(S:Nat->Prop)(w:j_)(fs:List af)(base rest:List (List UInt8))(es:List En)(v bv rv lv:m_):Prop where
 j:sh S w fs base rest v bv rv
 l:aS S w lv es
variable{S:Nat->Prop}{w W a:j_}{base rest:List (List UInt8)}{n b x:Nat}{s:ByteArray}{P:Prop}
theorem mE.ae{S':Nat->Prop}{fs:List af}{es:List En}{v bv rv lv:m_}(h:mE S w fs base rest es v bv rv lv)(t:∀b,S b->S' b/\W.heap[b]?=w.heap[b]?):mE S' W fs base rest es v bv rv lv:=⟨h.j.ae t,h.l.ae t⟩
def fk(w:j_)(S:Nat->Prop)(r:St×Int)(gen:Int)(base rest:List (List UInt8))(es:List En)(e:Ending)(w':j_):Prop:=
 ∃A n c Ab nb cb Ar nr cr Al cl,e=k_ (J_ #[JI #[e_ d_ r.1.aa,a_ A n c,e_ d_ gen,a_ Ab nb cb,a_ Ar nr cr,a_ Al es.length cl],e_ d_ r.2])/\mE (fO S w w') w' r.1.files base rest es (a_ A n c) (a_ Ab nb cb) (a_ Ar nr cr) (a_ Al es.length cl)/\n_ w.heap.size w w'
theorem B6.fin{U:j_}{b0 b2:Nat}{T:St}{er gen:Int}{es:List En}{A t D G:Option Kb}{m c I J K M O:Nat}(h:B6 w n b0 b2 T.aa gen (a_ A m c) (a_ t I J) (a_ D K M) (a_ G es.length O) W)(hS:∀b,S b->b<w.heap.size)
  (hr:mE (TB S w n W) W T.files base rest es (a_ A m c) (a_ t I J) (a_ D K M) (a_ G es.length O)) (j:Kept (·=b2) W U):
  fk w S (T,er) gen base rest es (k_ (J_ #[JI #[e_ d_ T.aa,a_ A m c,e_ d_ gen,a_ t I J,a_ D K M,a_ G es.length O],e_ d_ er])) U:=by
 have V:=h.size;have Y:=h.l2;refine⟨_,_,_,_,_,_,_,_,_,_,_,rfl,hr.ae λb X=>?_,h.below.trans (j.below O_ (λk j=>by omega))⟩;obtain⟨h1,h2⟩:=TB.kept hS V j (λk j=>by omega) b X;exact⟨TB.fin b h1,h2⟩
theorem B6.two(w:j_)(pw gen:Int)(fv bv rv lv:m_):∃j,j=(w.alloc (f_ #[e_ d_ pw,fv,e_ d_ gen,bv,rv,lv] 47)).alloc (f_ #[e_ d_ 0,a_ b_ 0 0,e_ d_ 0,a_ b_ 0 0,a_ b_ 0 0,a_ b_ 0 0] 47)/\
  B6 w 2 w (w+1) pw gen fv bv rv lv j/\j.heap.size=w.heap.size+2:=by
 have t:=ah w (f_ #[e_ d_ pw,fv,e_ d_ gen,bv,rv,lv] 47);have b2:=ah (w.alloc (f_ #[e_ d_ pw,fv,e_ d_ gen,bv,rv,lv] 47)) (f_ #[e_ d_ 0,a_ b_ 0 0,e_ d_ 0,a_ b_ 0 0,a_ b_ 0 0,a_ b_ 0 0] 47);refine⟨_,rfl,⟨t.trans (b2.mono (by simp)),by simp,by omega,by omega,by omega,?_,?_⟩,by simp⟩
 ·rw[b2.block _ (by simp)];exact r_ w _
 have:=r_ (w.alloc (f_ #[e_ d_ pw,fv,e_ d_ gen,bv,rv,lv] 47)) (f_ #[e_ d_ 0,a_ b_ 0 0,e_ d_ 0,a_ b_ 0 0,a_ b_ 0 0,a_ b_ 0 0] 47);rwa[JQ]at this
theorem wP(st:St)(hp:st.aa<=9223372036854775807)(S:Nat->Prop)(w:j_)(hS:∀b,S b->b<w.heap.size)(g:Int)(base rest:List (List UInt8))(es:List En)(A Ab Ar Al:Option Kb)(n c nb cb nr cr cl:Nat)(h:mE S w st.files base rest es (a_ A n c) (a_ Ab nb cb) (a_ Ar nr cr) (a_ Al es.length cl))(hl:st.files.length<=900000)(hd:∀f∈st.files,f.data.length<=1000000):
  H_ h_ 34 #[JI #[e_ d_ st.aa,a_ A n c,e_ d_ g,a_ Ab nb cb,a_ Ar nr cr,a_ Al es.length cl]] w (fk w S (dx st) g base rest es):=by
 obtain⟨W0,D,h0,bj⟩:=B6.two w st.aa g (a_ A n c) (a_ Ab nb cb) (a_ Ar nr cr) (a_ Al es.length cl);have V:mE (TB S w 2 W0) W0 st.files base rest es (a_ A n c) (a_ Ab nb cb) (a_ Ar nr cr) (a_ Al es.length cl):=h.ae λb t=>⟨.inl t,h0.below.block b (hS b t)⟩
 have X:=Z_ (yY st hp (TB S w 2 W0) W0 (λb t=>TB.lt hS h0.size t) g base rest A Ab Ar n c nb cb nr cr V.j hl hd);have H0:=Z_ h0;have Y:=Z_ V;have HS:=Z_ hS;obtain⟨x0,x1,x2,x3,x4,x5⟩:=h0.cK;obtain⟨r,hr⟩:=N_ (dx st);rw[<-hr]at X⊢;obtain⟨P,hP⟩:=N_ (fk w S r g base rest es);rw[<-hP];have HP:=Z_ hP;obtain⟨en,Z⟩:=N_ (es.length);have av:=Z_ Z;rw[<-Z]at D x5 H0 Y⊢;rw[D]at x0 x1 x2 x3 x4 x5;clear hP hr h0 V h hS hd hl hp Z;go_enter Tryz.func34,Tryz.ntmps34;go_wp2_with fail;rw[<-D];clear D x0 x1 x2 x3 x4 x5;refine X.o.mono ?_;rintro e w1 ⟨A1,n1,c1,G,I,J,K,M,O,rfl,ba,U⟩;have h1:=H0.o.go U;have ad:=ah w1 (f_ #[e_ d_ r.1.aa,a_ A1 n1 c1,e_ d_ g,a_ G I J,a_ K M O] 44);have h2:=h1.go ad;obtain⟨Wf,bb,h3,bd⟩:=h2.sI r.1.aa g (a_ A1 n1 c1) (a_ G I J) (a_ K M O);obtain⟨Wg,bg,⟨f0,f1,f2,f3,f4,f5⟩,bf⟩:=h3.ret;have ak:mE (TB S w 2 Wf) Wf r.1.files base rest es (a_ A1 n1 c1) (a_ G I J) (a_ K M O) (a_ Al en cl):=by
  have key:∀b,TB S w 2 w1 b->TB S w 2 Wf b/\Wf.heap[b]?=w1.heap[b]?:=λb t=>by
   obtain⟨a1,a2⟩:=TB.go HS.o h1.size ad b t;obtain⟨a3,a4⟩:=TB.kept HS.o h2.size bd (λk hk=>by have:=h2.l0;omega) b a1;exact⟨a3,a4.trans a2⟩
  exact⟨ba.ae λb t=>key b (TB.new H0.o.size U.size b t),Y.o.l.ae λb t=>by
   obtain⟨a1,a2⟩:=TB.go HS.o H0.o.size U b t;obtain⟨a3,a4⟩:=key b a1;exact⟨a3,a4.trans a2⟩⟩
 rw[av.o]at h3 ak;have HE:=Z_ (B6.fin (er:=r.2) h3 HS.o ak bf);rw[<-av.o]at HE h3;obtain⟨x0,x1,x2,x3,x4,x5⟩:=h2.cK;obtain⟨p0,p1,p2,p3,p4,p5⟩:=h2.iZ;obtain⟨z0,z1,z2,z3,z4,z5⟩:=h3.cK;obtain⟨⟨s0,s1,s2,s3,s4,s5⟩,q0,q1,q2,q3,q4,q5⟩:=h3.gP;rw[bb]at z0 z1 z2 z3 z4 z5 s0 s1 s2 s3 s4 s5 q0 q1 q2 q3 q4 q5;clear bd bf h1 h2 h3 ak ba U ad X H0 Y;go_wp2;rw[<-bb,<-bg];refine C_ (v:=J_ #[JI #[e_ d_ r.1.aa,a_ A1 n1 c1,e_ d_ g,a_ G I J,a_ K M O,a_ Al en cl],e_ d_ r.2]) (by simp[results,Tryz.results34,go_sem,f0,f1,f2,f3,f4,f5]) rfl ?_;rw[HP.o];exact HE.o
theorem sE(st:St)(S:Nat->Prop)(w:j_)(hS:∀b,S b->b<w.heap.size)(g:Nat)(base rest:List (List UInt8))(A j t:Option Kb)(n c D G I J:Nat)(h:sh S w st.files base rest (a_ A n c) (a_ j D G) (a_ t I J))
  (Z:Option Kb) (m cp:Nat) (hm:65536<m):
  H_ h_ 69 #[JI #[e_ d_ st.aa,a_ A n c,e_ d_ (g:Nat),a_ j D G,a_ t I J],a_ Z m cp] w (fB w S (st,20) (g:Nat) base rest):=by
 have h0:=J5.start w st.aa (g:Nat) (a_ A n c) (a_ j D G) (a_ t I J);obtain⟨x0,x1,x2,x3,x4,x5,x6,x7,x8,x9,ad,ak,av,a1,a2,ba,bb,bd,bf,bg⟩:=h0.cells;obtain⟨K,M⟩:=N_ ((w.alloc (f_ #[e_ d_ st.aa,a_ A n c,e_ d_ (g:Nat),a_ j D G,a_ t I J] 44)).alloc (f_ #[e_ d_ st.aa,a_ A n c,e_ d_ (g:Nat),a_ j D G,a_ t I J] 44));have O:n_ w w K:=by rw[M];exact(B_.alloc L_ _).alloc (by simp) _
 have U:K.heap[w.heap.size+1]?=c_ (f_ #[e_ d_ st.aa,a_ A n c,e_ d_ (g:Nat),a_ j D G,a_ t I J] 44 (0,0)):=by
  rw[M];have:=r_ (w.alloc (f_ #[e_ d_ st.aa,a_ A n c,e_ d_ (g:Nat),a_ j D G,a_ t I J] 44)) (f_ #[e_ d_ st.aa,a_ A n c,e_ d_ (g:Nat),a_ j D G,a_ t I J] 44);rwa[JQ]at this
 obtain⟨f0,f1,f2,f3,f4⟩:K.cell? ⟨w+1,0,b_⟩=c_ (e_ d_ st.aa)/\K.cell? ⟨w+1,1,b_⟩=c_ (a_ A n c)/\K.cell? ⟨w+1,2,b_⟩=c_ (e_ d_ (g:Nat))/\K.cell? ⟨w+1,3,b_⟩=c_ (a_ j D G)/\K.cell? ⟨w+1,4,b_⟩=c_ (a_ t I J):=by simp[E_,U]
 have V:x_ (fB w S (st,20) (g:Nat) base rest (k_ (J_ #[JI #[e_ d_ st.aa,a_ A n c,e_ d_ g,a_ j D G,a_ t I J],e_ d_ 20])) K):=Z_ ⟨_,_,_,_,_,_,_,_,_,rfl,h.ae λb X=>⟨.inl X,O.block b (hS b X)⟩,O⟩;obtain⟨P,Y⟩:=N_ (fB w S (st,20) (g:Nat) base rest);rw[<-Y]at V⊢;have bj:(65536:Int)<(m:Int):=by omega
 clear Y h0 h hS O U;go_enter Tryz.func69,Tryz.ntmps69;go_wp2;rw[<-M];refine C_ (v:=J_ #[JI #[e_ d_ st.aa,a_ A n c,e_ d_ g,a_ j D G,a_ t I J],e_ d_ 20]) (by simp[results,Tryz.results69,go_sem,f0,f1,f2,f3,f4]) rfl ?_;exact V.o
theorem B6.three(w:j_)(pw gen:Int)(fv bv rv lv:m_)(s:ByteArray)(n:Int)(u:m_):∃j,j=((w.alloc (f_ #[e_ d_ pw,fv,e_ d_ gen,bv,rv,lv] 47)).alloc (f_ #[g_ s,e_ d_ n,u] 55)).alloc (f_ #[e_ d_ 0,a_ b_ 0 0,e_ d_ 0,a_ b_ 0 0,a_ b_ 0 0,a_ b_ 0 0] 47)/\
  B6 w 3 w (w.heap.size+1+1) pw gen fv bv rv lv j/\j.heap.size=w.heap.size+3/\j.heap[w.heap.size+1]?=c_ (f_ #[g_ s,e_ d_ n,u] 55 (0,0)):=by
 have D:=ah w (f_ #[e_ d_ pw,fv,e_ d_ gen,bv,rv,lv] 47);have b2:=ah (w.alloc (f_ #[e_ d_ pw,fv,e_ d_ gen,bv,rv,lv] 47)) (f_ #[g_ s,e_ d_ n,u] 55);have t:=ah ((w.alloc (f_ #[e_ d_ pw,fv,e_ d_ gen,bv,rv,lv] 47)).alloc (f_ #[g_ s,e_ d_ n,u] 55)) (f_ #[e_ d_ 0,a_ b_ 0 0,e_ d_ 0,a_ b_ 0 0,a_ b_ 0 0,a_ b_ 0 0] 47);have G:(w.alloc (f_ #[e_ d_ pw,fv,e_ d_ gen,bv,rv,lv] 47)).heap.size=w.heap.size+1:=by simp
 have I:((w.alloc (f_ #[e_ d_ pw,fv,e_ d_ gen,bv,rv,lv] 47)).alloc (f_ #[g_ s,e_ d_ n,u] 55)).heap.size=w.heap.size+1+1:=by simp
 refine⟨_,rfl,⟨(D.trans (b2.mono O_)).trans (t.mono O_),by simp,by omega,by omega,by omega,?_,?_⟩,by simp,?_⟩
 ·rw[t.block _ O_,b2.block _ O_];exact r_ w _
 ·have:=r_ ((w.alloc (f_ #[e_ d_ pw,fv,e_ d_ gen,bv,rv,lv] 47)).alloc (f_ #[g_ s,e_ d_ n,u] 55)) (f_ #[e_ d_ 0,a_ b_ 0 0,e_ d_ 0,a_ b_ 0 0,a_ b_ 0 0,a_ b_ 0 0] 47)
  rwa[I]at this
 rw[t.block _ O_];have:=r_ (w.alloc (f_ #[e_ d_ pw,fv,e_ d_ gen,bv,rv,lv] 47)) (f_ #[g_ s,e_ d_ n,u] 55);rwa[G]at this
theorem rI(st:St)(hp:st.aa<=9223372036854775807)(S:Nat->Prop)(w:j_)(hS:∀b,S b->b<w.heap.size)(g:Nat)(hg:g<4294967296)(base rest:List (List UInt8))(es:List En)(A Ab Ar Al:Option Kb)(n c nb cb nr cr cl:Nat)(h:mE S w st.files base rest es (a_ A n c) (a_ Ab nb cb) (a_ Ar nr cr) (a_ Al es.length cl))(hl:st.files.length<=900000)(hd:∀f∈st.files,f.data.length<=1000000)
  (eA:rest.length<=1000000) (cu:∀l∈rest,l.length<=1000000) (eC:es.length<=100000) (E:En) (K:Option Kb) (M:Nat) (hE:bW S w (eV E K M) E) (bB:∀x∈E.aI,qj x/\eU x.ty) (e3:E.aI.length<=1000000):
  H_ h_ 32 #[JI #[e_ d_ st.aa,a_ A n c,e_ d_ g,a_ Ab nb cb,a_ Ar nr cr,a_ Al es.length cl],eV E K M] w (fk w S ((fQ st g rest es E).1,(fQ st g rest es E).2.1) g base (fQ st g rest es E).2.2.1 (fQ st g rest es E).2.2.2):=by
 obtain⟨W0,bN,h0,hf,bO⟩:=B6.three w st.aa g (a_ A n c) (a_ Ab nb cb) (a_ Ar nr cr) (a_ Al es.length cl) E.uri E.bu (a_ K E.aI.length M);have cv:mE (TB S w 3 W0) W0 st.files base rest es (a_ A n c) (a_ Ab nb cb) (a_ Ar nr cr) (a_ Al es.length cl):=h.ae λb t=>⟨.inl t,h0.below.block b (hS b t)⟩
 have bR:bW S W0 (eV E K M) E:=hE.ae λb t=>⟨t,h0.below.block b (hS b t)⟩
 have V:=Z_ (kS E (λx hx=>(bB x hx).1) _ W0 (bR.ae λb t=>⟨by have:=hS b t;have:=h0.size;show b<W0;omega,rfl⟩));have H0:=Z_ h0;have cx:=Z_ cv;have X:=Z_ hS;have cB:=Z_ bR;have b1:=Z_ bO;have e4:=Z_ bB;have HG:=Z_ hg;obtain⟨y0,y1,y2⟩:=aR bO;obtain⟨P,hP⟩:=N_ (fk w S ((fQ st g rest es E).1,(fQ st g rest es E).2.1) g base (fQ st g rest es E).2.2.1 (fQ st g rest es E).2.2.2);rw[<-hP];have HP:=Z_ hP;rw[bN]at y0 y1 y2;have e5:=Z_ cu;have e6:=Z_ hd;unfold eV at V;unfold eV;unfold gm at V;obtain⟨z,hz⟩:∃z:Int,z=if gF E=true then 0 else 200:=⟨_,rfl⟩;rw[<-hz]at V;have HZ:=Z_ hz;clear hP h0 cv h hS hd bO bR hE bB hz cu hg;go_enter Tryz.func32,Tryz.ntmps32;go_wp2_with fail;rw[<-bN];clear bN y0 y1 y2;refine V.o.mono ?_;rintro e w1 ⟨v1,rfl,bd,b3,b5⟩;have h1:=H0.o.go bd;have bo:=Z_ ((bd.block _ (ao b1.o)).trans b1.o);have bp:=TB.go (n:=3) X.o H0.o.size bd;have bg:x_ (mE (TB S w 3 w1) w1 st.files base rest es (a_ A n c) (a_ Ab nb cb) (a_ Ar nr cr) (a_ Al es.length cl)):=Z_ (cx.o.ae bp);have cF:x_ (bW S w1 (eV E K M) E):=Z_ (cB.o.ae λb t=>⟨t,bd.block b (by have:=X.o b t;have:=H0.o.size;omega)⟩);have H1:=Z_ h1;clear bp cx cB b1 V;cases hk:gF E with
 |false=>
  have hz:z=200:=by rw[HZ.o,hk];rfl
  subst hz;obtain rfl:=b5 hk;obtain⟨Wf,bj,⟨f0,f1,f2,f3,f4,f5⟩,O⟩:=h1.ret;have HE:x_ (P (k_ (J_ #[JI #[e_ d_ st.aa,a_ A n c,e_ d_ g,a_ Ab nb cb,a_ Ar nr cr,a_ Al es.length cl],e_ d_ 200])) Wf):=Z_ (by
   rw[HP.o,rG hk];exact B6.fin h1 X.o bg.o O)
  obtain⟨x0,x1,x2,x3,x4,x5⟩:=h1.cK;obtain⟨⟨s0,s1,s2,s3,s4,s5⟩,q0,q1,q2,q3,q4,q5⟩:=h1.gP;generalize es.length=en at*;clear O h1 bd b3 b5 hk HP;go_wp2;rw[<-bj];refine C_ (v:=J_ #[JI #[e_ d_ st.aa,a_ A n c,e_ d_ g,a_ Ab nb cb,a_ Ar nr cr,a_ Al en cl],e_ d_ 200]) (by simp[results,Tryz.results32,go_sem,f0,f1,f2,f3,f4,f5]) rfl ?_;exact HE.o
 |true=>
  have hz:z=0:=by rw[HZ.o,hk];rfl
  subst hz;have ho:=b3 hk;obtain⟨L,hL⟩:=N_ (aN E);rw[<-hL]at ho;obtain⟨A1,c1,rfl⟩:=ho.form;rw[t_]at ho⊢;have U:∃(R:St×Int) (G:List (List UInt8)),fQ st g rest es E=(R.1,R.2,G,if R.2=0 then aq aB E es else es)/\H_ h_ 69 #[JI #[e_ d_ st.aa,a_ A n c,e_ d_ (g:Nat),a_ Ab nb cb,a_ Ar nr cr],a_ A1 L.length c1] w1 (fB w1 (TB S w 3 w1) R (g:Nat) base G):=by
   by_cases cc:65536<L.length
   ·exact⟨(st,20),rest,by rw[oo hk (by rw[<-hL];exact cc)];rfl,sE st _ w1 (λb t=>TB.lt X.o h1.size t) g base rest A Ab Ar n c nb cb nr cr bg.o.j A1 L.length c1 cc⟩
   refine⟨_,_,?_,nA st hp _ w1 (λb t=>TB.lt X.o h1.size t) g HG.o base rest A Ab Ar n c nb cb nr cr bg.o.j hl e6.o A1 c1 L ((Own.dH ho).more L_) O_ eA e5.o⟩;rw[nh hk (by rw[<-hL];exact cc),<-hL]
  obtain⟨⟨T,er⟩,G,bt,U⟩:=U;have HC:=Z_ U;have J:=Z_ bt;obtain⟨x0,x1,x2,x3,x4,x5⟩:=h1.cK;generalize L.length=Ln at*;clear U bt ho hL hk h1 bd b3 b5;go_wp2_with fail;refine HC.o.mono ?_;rintro e w2 ⟨A2,n2,c2,Y,Z,ad,ak,av,ba,rfl,c8,bb⟩;have h2:=H1.o.go bb;have bf:=ah w2 (f_ #[e_ d_ T.aa,a_ A2 n2 c2,e_ d_ g,a_ Y Z ad,a_ ak av ba] 44);have h3:=h2.go bf;obtain⟨D,bm,h4,bn⟩:=h3.sI T.aa g (a_ A2 n2 c2) (a_ Y Z ad) (a_ ak av ba);have key:∀b,TB S w 3 w2 b->TB S w 3 D b/\D.heap[b]?=w2.heap[b]?:=λb t=>by
   obtain⟨a1,a2⟩:=TB.go X.o h2.size bf b t;obtain⟨a3,a4⟩:=TB.kept X.o h3.size bn (λk hk=>by have:=h3.l0;omega) b a1;exact⟨a3,a4.trans a2⟩
  have cd:x_ (mE (TB S w 3 D) D T.files base G es (a_ A2 n2 c2) (a_ Y Z ad) (a_ ak av ba) (a_ Al es.length cl)):=Z_ ⟨c8.ae λb t=>key b (TB.new H1.o.size bb.size b t),bg.o.l.ae λb t=>by
   obtain⟨a1,a2⟩:=TB.go X.o H1.o.size bb b t;obtain⟨a3,a4⟩:=key b a1;exact⟨a3,a4.trans a2⟩⟩
  have e7:=H1.o.size;have e8:=bb.size;have e9:=bf.size;have bk:=Z_ ((bn.block _ O_ O_).trans ((bf.block _ O_).trans ((bb.block _ O_).trans bo.o)));have c9:x_ (bW S D (eV E K M) E):=Z_ (cF.o.ae λb t=>⟨t,by
   have fb:=X.o b t;exact(bn.block b O_ O_).trans ((bf.block b O_).trans (bb.block b O_))⟩)
  have H4:=Z_ h4;obtain⟨z0,z1,z2,z3,z4,z5⟩:=h3.cK;obtain⟨p0,p1,p2,p3,p4,p5⟩:=h3.iZ;clear bn h2 h3 c8 bb bf key e7 e8 e9 HC bg cF bo x0 x1 x2 x3 x4 x5;by_cases he:er=0
  rotate_left
  ·have hh:(er !=0)=true:=by simpa using he
   rw[I_ he]at J;obtain⟨Wf,bj,⟨f0,f1,f2,f3,f4,f5⟩,O⟩:=h4.ret;have HE:x_ (P (k_ (J_ #[JI #[e_ d_ T.aa,a_ A2 n2 c2,e_ d_ g,a_ Y Z ad,a_ ak av ba,a_ Al es.length cl],e_ d_ er])) Wf):=Z_ (by
    rw[HP.o,J.o];exact B6.fin h4 X.o cd.o O)
   obtain⟨x0,x1,x2,x3,x4,x5⟩:=h4.cK;obtain⟨⟨s0,s1,s2,s3,s4,s5⟩,q0,q1,q2,q3,q4,q5⟩:=h4.gP;rw[bm]at x0 x1 x2 x3 x4 x5 s0 s1 s2 s3 s4 s5 q0 q1 q2 q3 q4 q5;generalize es.length=en at*;clear O h4 he HP J;go_wp2;rw[<-bm,<-bj];refine C_ (v:=J_ #[JI #[e_ d_ T.aa,a_ A2 n2 c2,e_ d_ g,a_ Y Z ad,a_ ak av ba,a_ Al en cl],e_ d_ er]) (by simp[results,Tryz.results32,go_sem,f0,f1,f2,f3,f4,f5]) rfl ?_;exact HE.o
  subst he;rw[G_ rfl]at J;have bx:vg E:=⟨λx hx=>(e4.o x hx).2,e3⟩;have fi:=JG D D;have fr:x_ (H_ h_ 63 #[a_ (c_ ⟨D,0,b_⟩) 1 1] (D.alloc (f_ #[g_ E.uri,e_ d_ E.bu,a_ K E.aI.length M] 55)).drew λe w'=>∃b6 o6 c6 A6 I,e=k_ (a_ (c_ ⟨b6,o6,b_⟩) 1 c6)/\(w'.cell? ⟨b6,o6,b_⟩=c_ (g_ E.uri)/\w'.cell? ⟨b6,o6+1,b_⟩=c_ (e_ d_ E.bu)/\w'.cell? ⟨b6,o6+2,b_⟩=c_ (a_ A6 E.aI.length I))/\x_ (bW (λk=>D.heap.size<=k/\k<w'.heap.size) w' (eV E A6 I) E)/\x_ (n_ D D w')/\w'.cell? ⟨w,5,b_⟩=c_ (a_ Al es.length cl)):=Z_ (by
   have cf:n_ D D (D.alloc (f_ #[g_ E.uri,e_ d_ E.bu,a_ K E.aI.length M] 55)).drew:=by
    have h:=ah D (f_ #[g_ E.uri,e_ d_ E.bu,a_ K E.aI.length M] 55);exact⟨h.os,h.tape,h.output,h.size,h.block⟩
   have df:(D.alloc (f_ #[g_ E.uri,e_ d_ E.bu,a_ K E.aI.length M] 55)).drew.heap[D.heap.size]?=c_ (f_ #[g_ E.uri,e_ d_ E.bu,a_ K E.aI.length M] 55 (0,0)):=r_ D _;have hq:(D.alloc (f_ #[g_ E.uri,e_ d_ E.bu,a_ K E.aI.length M] 55)).drew.heap.size=D.heap.size+1:=by
    show(D.alloc (f_ #[g_ E.uri,e_ d_ E.bu,a_ K E.aI.length M] 55)).heap.size=_;simp
   generalize(D.alloc (f_ #[g_ E.uri,e_ d_ E.bu,a_ K E.aI.length M] 55)).drew=W at*;have dv:=H4.o.size;have fz:bW (·<W.heap.size) W (eV E K M) E:=c9.o.ae λb t=>by
    have fb:=X.o b t;exact⟨by show b<W;omega,cf.block b O_⟩
   have cg:aS (·<W.heap.size) W (a_ (c_ ⟨D,0,b_⟩) 1 1) [E]:=by
    refine⟨_,1,rfl,Kh _,by decide,λ_=>eV E K M,λ_=>⟨D,0,rfl,by show D.heap.size<W.heap.size;omega,λi hi j hj=>?_⟩,λi hi=>?_⟩
    ·have ch:i=0:=by have:i<1:=hi;omega
     subst ch;obtain⟨g0,g1,g2⟩:=aR df;have:j=0\/j=1\/j=2:=by omega
     rcases this with rfl|rfl|rfl
     ·exact g0
     ·exact g1
     exact g2
    have ch:i=0:=by have:i<1:=hi;omega
    subst ch;exact fz
   refine(iK [E] (λe he=>by rw[KV.1 he];exact bx) _ _ cg (by simp)).mono ?_;rintro e w' ⟨v',rfl,gi,gn⟩;have hv:=jn.at_ gi;obtain⟨A',c',rfl,-,-⟩:=hv.form;obtain⟨b6,o6,A6,I,rfl,hy,gp,ht,g0,g1,g2⟩:=hv.arg (i:=0) (by simp);have eb:n_ D D w':=cf.trans (gn.mono cf.size);have hx:=H4.o.cK.2.2.2.2.2;refine⟨b6,o6,c',A6,I,rfl,⟨by simpa using g0,by simpa using g1,by simpa using g2⟩,Z_ ⟨A6,I,rfl,gp,ht.ae λk hk=>⟨⟨by have:=hk.1;omega,hk.2⟩,rfl⟩⟩,Z_ eb,(eb.cell (p:=⟨w,5,b_⟩) (by show w.heap.size<_;omega)).trans hx⟩)
  obtain⟨NL,ck⟩:=N_ ((aq aB E es).length);have gv:x_ (∀W A6 I,n_ D D W->bW (λk=>D.heap.size<=k/\k<W.heap.size) W (eV E A6 I) E->H_ h_ 70 #[a_ Al es.length cl,JI #[g_ E.uri,e_ d_ E.bu,a_ A6 E.aI.length I]] W λe w'=>∃A7 c7,e=k_ (a_ A7 NL c7)/\x_ (aS (TB S w 3 w') w' (a_ A7 NL c7) (aq aB E es))/\x_ (n_ D D w')/\w'.cell? ⟨w,5,b_⟩=c_ (a_ Al es.length cl)/\w'.frozen? ⟨w,5,b_⟩=o_):=Z_ λW A6 I hW gy=>by
   have dv:=H4.o.size;have gz:=hW.size;refine(po es E A6 I _ W (TB S w 3 W) (λb t=>TB.lt X.o O_ t) (cd.o.l.ae λb t=>TB.go X.o dv hW b t) (gy.ae λb t=>⟨.inr ⟨by omega,t.2⟩,rfl⟩) eC).mono ?_;rintro e w' ⟨A7,c7,rfl,g3,ec⟩;have t:=hW.trans (ec.mono gz);have h7:=H4.o.go t;rw[ck];exact⟨A7,c7,rfl,Z_ (g3.ae λb t=>⟨TB.new O_ ec.size b t,rfl⟩),Z_ t,h7.cK.2.2.2.2.2,h7.iZ.2.2.2.2.2⟩
  have x5:D.drew.cell? ⟨w,5,b_⟩=c_ (a_ Al es.length cl):=h4.cK.2.2.2.2.2;have ee:=aR (W:=D.drew) bk.o;obtain⟨y0,y1,y2⟩:=ee;have cm:D.cell? ⟨w,5,b_⟩=c_ (a_ Al es.length cl):=x5;obtain⟨g4,g5,g6⟩:=aR bk.o;have eg:(D.alloc (f_ #[g_ E.uri,e_ d_ E.bu,a_ K E.aI.length M] 55)).drew.cell? ⟨w,5,b_⟩=c_ (a_ Al es.length cl):=Kn (f_ #[g_ E.uri,e_ d_ E.bu,a_ K E.aI.length M] 55) cm;have g7:=Kn (f_ #[g_ E.uri,e_ d_ E.bu,a_ K E.aI.length M] 55) cm;have eo:=Z_ ck;generalize es.length=en at*;clear h4 fi bx ck c9 bk;go_wp2_with fail;rw[<-bm];clear bm z0 z1 z2 z3 z4 z5 p0 p1 p2 p3 p4 p5;go_region_with (first
   |(go_at_call 70;(with_reducible refine(gv.o _ _ _ HB6.o g8.o).mono ?_);rintro e w7 ⟨A7,c7,rfl,ha,ev,x7,q7⟩)
   |(go_at_call 63;(with_reducible refine fr.o.mono ?_);rintro e w6 ⟨b6,o6,c6,A6,I,rfl,⟨e0,e1,e2⟩,g8,HB6,x6⟩))
  all_goals
   have h7:=H4.o.go ev.o;obtain⟨h8,cp⟩:=h7.xA (a_ A7 NL c7);have ct:mE (TB S w 3 (w7.setCell ⟨w,5,b_⟩ (a_ A7 NL c7))) (w7.setCell ⟨w,5,b_⟩ (a_ A7 NL c7)) T.files base G (aq aB E es) (a_ A2 n2 c2) (a_ Y Z ad) (a_ ak av ba) (a_ A7 NL c7):=
    ⟨cd.o.j.ae λb t=>by
     obtain⟨a1,a2⟩:=TB.go X.o H4.o.size ev.o b t;obtain⟨a3,a4⟩:=TB.kept X.o h7.size cp (λk hk=>by omega) b a1;exact⟨a3,a4.trans a2⟩,ha.o.ae λb t=>TB.kept X.o h7.size cp (λk hk=>by omega) b t⟩
   obtain⟨Wf,bj,⟨f0,f1,f2,f3,f4,f5⟩,O⟩:=h8.ret;have HE:x_ (P (k_ (J_ #[JI #[e_ d_ T.aa,a_ A2 n2 c2,e_ d_ g,a_ Y Z ad,a_ ak av ba,a_ A7 NL c7],e_ d_ 0])) Wf):=Z_ (by
    rw[HP.o,J.o];rw[eo.o]at h8 ct O⊢;exact B6.fin (er:=0) h8 X.o ct O)
   obtain⟨u0,u1,u2,u3,u4,u5⟩:=h8.cK;obtain⟨⟨s0,s1,s2,s3,s4,s5⟩,r0,r1,r2,r3,r4,r5⟩:=h8.gP;clear h7 h8 cp ct O x5 cm eg g7 y0 y1 y2 g4 g5 g6 e0 e1 e2 x6 x7 q7 HP J eo;go_wp2;rw[<-bj];refine C_ (v:=J_ #[JI #[e_ d_ T.aa,a_ A2 n2 c2,e_ d_ g,a_ Y Z ad,a_ ak av ba,a_ A7 NL c7],e_ d_ 0]) (by simp[results,Tryz.results32,go_sem,f0,f1,f2,f3,f4,f5]) rfl ?_;exact HE.o
theorem vY{es:List En}{j:Nat}(h:∀i,i<j->∀(hi:i<es.length),¬es[i].uri=s)(hj:j<es.length)(he:es[j].uri=s):bZ es s.data.toList=es[j]/\(aj aB s.data.toList es).isSome=true:=by
 have D:aj aB s.data.toList es=c_ es[j]:=by
  have e:es=es.take j++(es[j]::es.drop (j+1)):=by simp
  have h0:∀l:List En,(∀y∈l,¬y.uri=s)->∀r,aj aB s.data.toList (l++r)=aj aB s.data.toList r:=by
   intro l
   induction l with
   |nil=>intro _ r;rfl
   |cons y l G=>
    intro t r;rw[Ka,ca,I_ (λe=>t y (by simp) (ly.1 e)),G (λz I=>t z (by simp[I]))]
  have h1:aj aB s.data.toList (es.take j++(es[j]::es.drop (j+1)))=c_ es[j]:=by
   rw[h0 (es.take j) (λy t=>by
   obtain⟨i,hi,rfl⟩:=J4 t;rw[JN]at hi;rw[List.getElem_take];exact h i O_ O_),ca,G_ (ly.2 he)]
  rw[<-e]at h1;exact h1
 constructor
 ·unfold bZ;rw[D]
 rw[D];rfl
theorem vX{es:List En}(h:∀i,∀(hi:i<es.length),¬es[i].uri=s):bZ es s.data.toList=FT/\(aj aB s.data.toList es).isSome=false:=by
 have j:aj aB s.data.toList es=none:=by
  cases j:aj aB s.data.toList es with
  |none=>rfl
  |some x=>
   obtain⟨h1,h2⟩:=aV j;obtain⟨i,hi,rfl⟩:=J4 h1;exact absurd (ly.1 h2) (h i hi)
 constructor
 ·unfold bZ;rw[j]
 rw[j];rfl
theorem zU{r:Nat}(s:ByteArray)(n:Int)(v:m_)(h:W.heap[r]?=c_ (f_ #[g_ ⟨#[]⟩,e_ d_ 0,a_ b_ 0 0] 55 (0,0))):
  ∃j,j=(((W.setCell ⟨r,0,b_⟩ (g_ s)).setCell ⟨r,1,b_⟩ (e_ d_ n)).setCell ⟨r,2,b_⟩ v)/\(j.cell? ⟨r,0,b_⟩=c_ (g_ s)/\j.cell? ⟨r,1,b_⟩=c_ (e_ d_ n)/\j.cell? ⟨r,2,b_⟩=c_ v)/\Kept (·=r) W j:=by
 have t:=ai (ai (ai h 0 (g_ s)) 1 (e_ d_ n)) 2 v;simp only[JE,J0,J3]at t;exact⟨_,rfl,aR t,Kept.setCell (F:=(·=r)) (p:=⟨r,2,b_⟩) (Kept.setCell (F:=(·=r)) (p:=⟨r,1,b_⟩) (Kept.setCell (F:=(·=r)) (p:=⟨r,0,b_⟩) (Kept.refl _ _) (.inl rfl) _) (.inl rfl) _) (.inl rfl) _⟩
theorem pn(pw g:Int)(A Ab Ar U:Option Kb)(n c nb cb nr cr V:Nat)(es:List En)(s:ByteArray)(hs:s.size<=9223372036854775807)(S:Nat->Prop)(w:j_)(hS:∀b,S b->b<w.heap.size)(h:aS S w (a_ U es.length V) es)(bd:es.length<=1000000):
  H_ h_ 37 #[JI #[e_ d_ pw,a_ A n c,e_ d_ g,a_ Ab nb cb,a_ Ar nr cr,a_ U es.length V],g_ s] w λe w'=>∃A2 c2,e=k_ (J_ #[eV (bZ es s.data.toList) A2 c2,u_ (aj aB s.data.toList es).isSome])/\bW S w' (eV (bZ es s.data.toList) A2 c2) (bZ es s.data.toList)/\n_ w w w':=by
 obtain⟨P,hP⟩:∃P:Ending->j_->Prop,P=λe w'=>∃A2 c2,e=k_ (J_ #[eV (bZ es s.data.toList) A2 c2,u_ (aj aB s.data.toList es).isSome])/\bW S w' (eV (bZ es s.data.toList) A2 c2) (bZ es s.data.toList)/\n_ w w w':=⟨_,rfl⟩
 rw[<-hP];have HP:=Z_ hP;obtain⟨_,_,e0,bf,ak⟩:=h.form;injection e0 with e1 _ e2;subst e1 e2;obtain⟨X,G⟩:=N_ ((w.alloc (f_ #[e_ d_ pw,a_ A n c,e_ d_ g,a_ Ab nb cb,a_ Ar nr cr,a_ U es.length V] 47)).alloc (f_ #[g_ ⟨#[]⟩,e_ d_ 0,a_ b_ 0 0] 55));have K:n_ w w X:=by rw[G];exact(B_.alloc L_ _).alloc (by simp) _
 have I:X.heap[w.heap.size]?=c_ (f_ #[e_ d_ pw,a_ A n c,e_ d_ g,a_ Ab nb cb,a_ Ar nr cr,a_ U es.length V] 47 (0,0)):=by
  rw[G,(ah _ _).block _ (by simp)];exact r_ w _
 have t:X.heap[w.heap.size+1]?=c_ (f_ #[g_ ⟨#[]⟩,e_ d_ 0,a_ b_ 0 0] 55 (0,0)):=by
  rw[G];have:=r_ (w.alloc (f_ #[e_ d_ pw,a_ A n c,e_ d_ g,a_ Ab nb cb,a_ Ar nr cr,a_ U es.length V] 47)) (f_ #[g_ ⟨#[]⟩,e_ d_ 0,a_ b_ 0 0] 55);rwa[JQ]at this
 have x5:X.cell? ⟨w,5,b_⟩=c_ (a_ U es.length V):=by simp[E_,I]
 have H:=Z_ (h.ae (S':=S) (W':=X) λb hb=>⟨hb,K.block b (hS b hb)⟩);have HS:=Z_ hS;have M:=Z_ K;have J:=Z_ t;obtain⟨q0,q1,q2⟩:=au t;obtain⟨s0,s1,s2⟩:=aR t;clear hP h hS K I t ak;go_enter Tryz.func37,Tryz.ntmps37;go_wp2;rw[<-G];clear G
 go_loopw [6] (λiv W'=>∃j:Nat,j<=es.length/\iv=e_ d_ j/\x_ (∀i,i<j->∀(hi:i<es.length),¬es[i].uri=s)/\X=W') (λiv _=>es.length - (A_ iv).toNat)
 case atStart=>exact⟨0,by omega,rfl,Z_ (λi hi=>by omega),rfl⟩
 obtain⟨j,hj,rfl,Z,rfl⟩:=hrel;have hz:=M.o.size;by_cases ad:j<es.length
 ·obtain⟨b,off,A',c',rfl,hb,av,ht,x0,x1,x2⟩:=H.o.arg ad
  by_cases hn:es[j].uri=s
  ·obtain⟨f1,f2⟩:=vY Z.o ad hn
   obtain⟨Wf,O,⟨y0,y1,y2⟩,D⟩:=zU es[j].uri es[j].bu (a_ A' es[j].aI.length c') J.o;have HE:x_ (P (k_ (J_ #[JI #[g_ es[j].uri,e_ d_ es[j].bu,a_ A' es[j].aI.length c'],u_ true])) Wf):=Z_ (by
    rw[HP.o];refine⟨A',c',by rw[f1,f2];rfl,by rw[f1];exact⟨A',c',rfl,av,ht.ae λg hg=>⟨hg,D.block g (by have:=HS.o g hg;omega) (by have:=HS.o g hg;omega)⟩⟩,M.o.trans (D.below hz (λk hk=>by omega))⟩)
   have a1:(es[j].uri.toList==s.toList)=true:=(vv _ _).2 hn;generalize es[j]=Y at*;clear hn f1 f2 D ht Z;go_wp2;rw[<-O];refine C_ (v:=J_ #[JI #[g_ Y.uri,e_ d_ Y.bu,a_ A' Y.aI.length c'],u_ true]) (by simp[results,Tryz.results37,go_sem,y0,y1,y2]) rfl ?_;exact HE.o
  have a1:(es[j].uri.toList==s.toList)=false:=lj hn;have a2:x_ (∀i,i<j+1->∀(hi:i<es.length),¬es[i].uri=s):=Z_ λi hi ba=>by
   by_cases h:i<j
   ·exact Z.o i h ba
   have:i=j:=by omega
   subst this;exact hn
  clear hn ht Z;generalize es[j]=Y at*;go_wp2;go_roundw
  case rel=>exact⟨j+1,by omega,by go_num,a2,trivial⟩
  simp[A_];omega
 have bb:j=es.length:=by omega
 obtain⟨f1,f2⟩:=vX (es:=es) (s:=s) (λi hi=>Z.o i O_ hi);obtain⟨Wf,O,⟨y0,y1,y2⟩,D⟩:=zU ⟨#[]⟩ 0 (a_ b_ 0 0) J.o;have HE:x_ (P (k_ (J_ #[JI #[g_ ⟨#[]⟩,e_ d_ 0,a_ b_ 0 0],u_ o_])) Wf):=Z_ (by
  rw[HP.o];exact⟨b_,0,by rw[f1,f2];rfl,by rw[f1];exact⟨b_,0,rfl,by decide,bA.nil _ _ _ _ (Km _)⟩,M.o.trans (D.below hz (λk hk=>by omega))⟩)
 clear f1 f2 D Z bb;go_wp2;rw[<-O];refine C_ (v:=J_ #[JI #[g_ ⟨#[]⟩,e_ d_ 0,a_ b_ 0 0],u_ o_]) (by simp[results,Tryz.results37,go_sem,y0,y1,y2]) rfl ?_;exact HE.o
def IS(s:ByteArray)(W:j_):Nat:=Lv W s.size 0 5
def FI(s:ByteArray)(W:j_):j_:=W.drew.alloc (f_ (Ms s (Lv W s.size 0 5)) 5 ((Ms s (Lv W s.size 0 5)).size,(Ms s (Lv W s.size 0 5)).size+1))
theorem uf(s:ByteArray)(hs:s.size<=2147483648)(W:j_):(convert 9 24 (g_ s)).run h_ W=.ok (a_ (c_ ⟨W,0,b_⟩) s.size (IS s W)) (FI s W)/\bw (FI s W) (W+1) (a_ (c_ ⟨W,0,b_⟩) s.size (IS s W)) (l_ s.data.toList)/\n_ W W (FI s W)/\(FI s W).heap.size=W.heap.size+1:=by
 obtain⟨cap,J,h1,h2,j,t⟩:=nX s W hs;have h0:=run_bytes_of_string (P:=h_) W 9 24 5 s KH J9 Tryz.underlying5;rw[h0]at h1;injection h1 with D G;have I:Lv W s.size 0 5=cap:=by injection D
 subst I G;exact⟨h0,h2,j,t⟩
theorem GH{B:Nat}(h:W.heap[b]?=c_ (f_ #[e_ KD 2,e_ KD (n:Int)] 5 (0,0)))(j:B<=b)(hn:n<256):Par.Own W B 5 (a_ (c_ ⟨b,0,b_⟩) 2 2) (l_ [2,n.toUInt8]):=by
 have e:(#[e_ KD 2,e_ KD (n:Int)]:Array m_)=(l_ [2,n.toUInt8]).toArray:=jQ 2 n O_;refine⟨by simp[l_],.inr ⟨b,2,(l_ [2,n.toUInt8]).toArray,rfl,j,by rw[<-e];exact h,by simp[l_],by decide,by simp[l_],?_⟩⟩;simp[l_]
theorem GK(hs:s.size<=2147483648){X:j_}(hx:x=X.heap.size)(h:W.heap[x]?=(FI s X).heap[x]?)(t:x<W):bw W W (a_ (c_ ⟨x,0,b_⟩) s.size (IS s X)) (l_ s.data.toList):=by
 subst hx;obtain⟨A,c,e,h1,h2,D⟩:=(uf s hs X).2.1;refine⟨A,c,e,h1,h2,λh0=>?_⟩;obtain⟨b,off,G,M,j⟩:=D h0;subst G;injection e with I;injection I with J;injection J with K;subst K;exact⟨_,off,rfl,t,λi hi=>(D_ (w:=FI s X) (a:=⟨X,off+i,b_⟩) h).trans (j i hi)⟩
theorem CX(hs:s.size<=2147483648)(h:n_ a a W):n_ a a (FI s W):=h.trans ((uf s hs W).2.2.1.mono h.size)
theorem dp(h:n_ a a W)(o:Obj):n_ a a (W.alloc o):=h.alloc h.size o
theorem jR(w:j_)(o:Obj):(w.alloc o).heap=w.heap.push o:=rfl
theorem mZ(w:j_):w.drew.heap=w.heap:=rfl
theorem p8(s:ByteArray)(w:j_):(FI s w).heap=w.heap.push (f_ (Ms s (Lv w s.size 0 5)) 5 ((Ms s (Lv w s.size 0 5)).size,(Ms s (Lv w s.size 0 5)).size+1)):=rfl
theorem EJ{o:Oper}{a:Act}{K:Act->j_->Prop}{Q:Exit->Act->j_->Prop}{W2:j_}(hs:s.size<=64){x y:Operand}(V:o.op=.call {callee:=.builtin .append,args:=#[x,y],argTypes:=#[24,24]})(I:n_ W2 W2 W)
  {u:m_} {b:Nat} (X:a.eval x=a_ (c_ ⟨b,0,b_⟩) 2 2) (t:Par.Own W W2 5 (a_ (c_ ⟨b,0,b_⟩) 2 2) (l_ [2,s.size.toUInt8])) (hu:a.eval y=u) (J:bw W W u (l_ s.data.toList))
  (h:∀(G:Option Kb) (c5:Nat) w5,x_ (bw w5 w5 (a_ G (s.size+2) c5) (l_ (ed s)))->x_ (n_ W2 W2 w5)->x_ (∀k,k<W.heap.size->k≠b->w5.heap[k]?=W.heap[k]?)->K (a.put o.dst (a_ G (s.size+2) c5)) w5):o.wp h_ a W K Q:=by
 have O:=eX s;refine gj W x y 24 V W2 5 _ fD _ _ X t _ u _ hu J (aZ _) (by rw[t_,t_,O];simp;omega) I.size ?_;intro v5 w5 j D U;rw[<-byteCells_append]at j;obtain⟨G,c5,rfl⟩:=j.form;have e:(l_ ([2,s.size.toUInt8]++s.data.toList)).length=s.size+2:=by rw[t_,p_,O];show 2+s.size=_;omega
 rw[e]at j⊢;exact h G c5 w5 (Z_ j.dH) (Z_ (I.grown D I.size (λk M=>(t.lt k M).1))) (Z_ λk M hn=>D.block k M (λe=>hn (by cases e;rfl)))
theorem yc(h:n_ a a W){p:Kb}(hp:a<=p.block)(v:m_):n_ a a (W.setCell p v):=
 h.trans (((Kept.refl (·=p.block) W).setCell (.inl rfl) v).below h.size (λk j=>by omega))
def zeroAt(W:j_)(x:Nat):Prop:=W.heap[x]?=c_ (f_ #[e_ d_ 0,a_ b_ 0 0,e_ d_ 0,a_ b_ 0 0,a_ b_ 0 0] 44 (0,0))
theorem zeroAt.go{W':j_}(h:zeroAt W x)(j:n_ W W W'):zeroAt W' x:=(j.block _ (ao h)).trans h
theorem zeroAt.cells(h:zeroAt W x):W.cell? ⟨x,0,b_⟩=c_ (e_ d_ 0)/\W.cell? ⟨x,1,b_⟩=c_ (a_ b_ 0 0)/\W.cell? ⟨x,2,b_⟩=c_ (e_ d_ 0)/\W.cell? ⟨x,3,b_⟩=c_ (a_ b_ 0 0)/\W.cell? ⟨x,4,b_⟩=c_ (a_ b_ 0 0)/\
  W.frozen? ⟨x,0,b_⟩=o_/\W.frozen? ⟨x,1,b_⟩=o_/\W.frozen? ⟨x,2,b_⟩=o_/\W.frozen? ⟨x,3,b_⟩=o_/\W.frozen? ⟨x,4,b_⟩=false:=by
 unfold zeroAt at h;simp[E_,JW,h]
theorem zeroAt.put(h:zeroAt W x)(a0 j t a3 a4:m_):(((((W.setCell ⟨x,0,b_⟩ a0).setCell ⟨x,1,b_⟩ j).setCell ⟨x,2,b_⟩ t).setCell ⟨x,3,b_⟩ a3).setCell ⟨x,4,b_⟩ a4).heap[x]?=c_ (f_ #[a0,j,t,a3,a4] 44 (0,0)):=by
 have D:=ai (ai (ai (ai (ai h 0 a0) 1 j) 2 t) 3 a3) 4 a4;simp only[JE,J0,J3]at D;exact D
theorem zB(h:P:=by repeat first|with_reducible exact HB6.o|with_reducible exact HB5.o|with_reducible exact HD.o|with_reducible exact JG _ _|with_reducible refine Below.drew ?_|with_reducible refine dp ?_ _|with_reducible refine CX hs2 ?_|with_reducible refine yc ?_ (by first|omega|(simp only[jR,mZ,p8,LY];omega)) _|fail):P:=h
theorem zN(h:P:=by first|omega|(simp only[jR,mZ,p8,LY];done)|(simp only[jR,mZ,p8,LY];omega)|fail):P:=h
theorem zH(h:P:=by simp only[jR,mZ,p8,Mm,LY];first|done|(simp;done)|(simp;omega)|fail):P:=h
theorem zX{w5:j_}(j:x_ (∀k,k<W.heap.size->k≠b->w5.heap[k]?=W.heap[k]?))(h1:x<W)(h2:x≠b)(t:W.heap[x]?=c_ (f_ #[e_ d_ 0,a_ b_ 0 0,e_ d_ 0,a_ b_ 0 0,a_ b_ 0 0] 44 (0,0))):zeroAt w5 x:=(j.o x h1 h2).trans t
theorem zeroAt.lt(h:zeroAt W x):x<W:=ao h
section
variable{N:Nat->Prop}{W2 w5 w6:j_}{fs:List af}{base rest:List (List UInt8)}{v bv rv:m_}
theorem BQ(J:∀b,N b->b<W2.heap.size){X:Nat}(K:zeroAt w6 X)(O:W2<=X)(M:X<w5)(j:n_ W2 W2 w6)(hj:sh (fO N w5 w6) w6 fs base rest v bv rv)(pw G:Int){D:j_}
  (hw:D=(((((w6.setCell ⟨X,0,b_⟩ (.int d_ pw)).setCell ⟨X,1,b_⟩ v).setCell ⟨X,2,b_⟩ (.int d_ G)).setCell ⟨X,3,b_⟩ bv).setCell ⟨X,4,b_⟩ rv)):x_ (n_ W2 W2 D)/\x_ (D.heap[X]?=c_ (f_ #[.int d_ pw,v,.int d_ G,bv,rv] 44 (0,0)))/\x_ (sh (fO N W2 D) D fs base rest v bv rv):=by
 have t:=td X w6 (.int d_ pw) v (.int d_ G) bv rv;rw[<-hw]at t;have I:=j.size;refine⟨Z_ (j.trans (t.below I λk t=>by omega)),Z_ (by rw[hw];exact K.put _ _ _ _ _),Z_ (hj.ae λb j=>?_)⟩;rcases j with j|j
 ·have:=J b j;exact⟨.inl j,t.block b O_ O_⟩
 exact⟨.inr ⟨by omega,by have:=t.size;omega⟩,t.block b j.2 O_⟩
theorem DY(D:∀b,N b->b<W2.heap.size)(I:W2.heap.size<=w5.heap.size)(j:n_ W2 W2 w6)(hj:sh (fO N w5 w6) w6 fs base rest v bv rv)(pw t:Int):
  x_ (n_ W2 W2 (w6.alloc (f_ #[e_ d_ pw,v,e_ d_ t,bv,rv] 44)))/\x_ ((w6.alloc (f_ #[e_ d_ pw,v,e_ d_ t,bv,rv] 44)).heap[w6.heap.size]?=c_ (f_ #[e_ d_ pw,v,e_ d_ t,bv,rv] 44 (0,0)))/\x_ (sh (fO N W2 (w6.alloc (f_ #[e_ d_ pw,v,e_ d_ t,bv,rv] 44))) (w6.alloc (f_ #[e_ d_ pw,v,e_ d_ t,bv,rv] 44)) fs base rest v bv rv):=by
 have G:=j.size;refine⟨Z_ (dp j _),Z_ (r_ w6 _),Z_ (hj.ae λb j=>?_)⟩;rcases j with j|j
 ·have:=D b j;exact⟨.inl j,(ah w6 _).block b O_⟩
 exact⟨.inr ⟨by omega,by simp;omega⟩,(ah w6 _).block b j.2⟩
end
theorem sD(st:St)(hp:st.aa<=9223372036854775807)(S:Nat->Prop)(w:j_)(hS:∀b,S b->b<w.heap.size)(g:Nat)(hg:g<4294967296)(base rest:List (List UInt8))(es:List En)(A Ab Ar Al:Option Kb)(n c nb cb nr cr cl:Nat)(h:mE S w st.files base rest es (a_ A n c) (a_ Ab nb cb) (a_ Ar nr cr) (a_ Al es.length cl))(hl:st.files.length<=900000)(hd:∀f∈st.files,f.data.length<=1000000)
  (cu:rest.length<=1000000) (b5:∀l∈rest,l.length<=1000000) (ee:es.length<=100000) (b6:Ix.Good es) (s:ByteArray) (hs:s.size<=9223372036854775807):
  H_ h_ 33 #[JI #[e_ d_ st.aa,a_ A n c,e_ d_ g,a_ Ab nb cb,a_ Ar nr cr,a_ Al es.length cl],g_ s] w (fk w S ((gR st g rest es s).1,(gR st g rest es s).2.1) g base (gR st g rest es s).2.2.1 (gR st g rest es s).2.2.2):=by
 obtain⟨W0,bm,h0,eg⟩:=B6.two w st.aa g (a_ A n c) (a_ Ab nb cb) (a_ Ar nr cr) (a_ Al es.length cl);have bn:mE (TB S w 2 W0) W0 st.files base rest es (a_ A n c) (a_ Ab nb cb) (a_ Ar nr cr) (a_ Al es.length cl):=h.ae λb M=>⟨.inl M,h0.below.block b (hS b M)⟩
 have bo:=Z_ (pn st.aa g A Ab Ar Al n c nb cb nr cr cl es s hs (TB S w 2 W0) W0 (λb M=>TB.lt hS h0.size M) bn.l O_);have H0:=Z_ h0;have cc:=Z_ bn;have Y:=Z_ hS;have HG:=Z_ hg;obtain⟨x0,x1,x2,x3,x4,x5⟩:=h0.cK;obtain⟨P,hP⟩:=N_ (fk w S ((gR st g rest es s).1,(gR st g rest es s).2.1) g base (gR st g rest es s).2.2.1 (gR st g rest es s).2.2.2);rw[<-hP];have HP:=Z_ hP;rw[bm]at x0 x1 x2 x3 x4 x5;have cv:=Z_ b5;have cx:=Z_ hd;have cB:=Z_ b6;unfold eV at bo;generalize bZ es s.data.toList=FE at*;clear hP h0 bn h hS hd b5 hg b6;go_enter Tryz.func33,Tryz.ntmps33;go_wp2_with fail;rw[<-bm];clear bm x0 x1 x2 x3 x4 x5;refine bo.o.mono ?_;rintro e w1 ⟨AF,cF,rfl,-,bp⟩;obtain⟨W2,ad⟩:=N_ (w1.alloc (f_ #[g_ FE.uri,e_ d_ FE.bu,a_ AF FE.aI.length cF] 55));have cd:n_ w1 w1 W2:=by rw[ad];exact B_.alloc L_ _
 have ak:=bp.trans (cd.mono bp.size);have h2:=H0.o.go ak;have bt:x_ (mE (TB S w 2 W2) W2 st.files base rest es (a_ A n c) (a_ Ab nb cb) (a_ Ar nr cr) (a_ Al es.length cl)):=Z_ (cc.o.ae λb M=>TB.go Y.o H0.o.size ak b M);have H2:=Z_ h2;clear bp cd ak cc bo;cases hf:aj aB s.data.toList es with
 |none=>
  obtain⟨Wf,av,⟨f0,f1,f2,f3,f4,f5⟩,V⟩:=h2.ret;have HE:x_ (P (k_ (J_ #[JI #[e_ d_ st.aa,a_ A n c,e_ d_ g,a_ Ab nb cb,a_ Ar nr cr,a_ Al es.length cl],e_ d_ 221])) Wf):=Z_ (by
   rw[HP.o,oz hf];exact B6.fin h2 Y.o bt.o V)
  obtain⟨x0,x1,x2,x3,x4,x5⟩:=h2.cK;obtain⟨⟨s0,s1,s2,s3,s4,s5⟩,q0,q1,q2,q3,q4,q5⟩:=h2.gP;rw[ad]at x0 x1 x2 x3 x4 x5 s0 s1 s2 s3 s4 s5 q0 q1 q2 q3 q4 q5;generalize es.length=en at*;clear V h2 hf HP;dsimp only[MN];go_wp2;rw[<-ad,<-av];refine C_ (v:=J_ #[JI #[e_ d_ st.aa,a_ A n c,e_ d_ g,a_ Ab nb cb,a_ Ar nr cr,a_ Al en cl],e_ d_ 221]) (by simp[results,Tryz.results33,go_sem,f0,f1,f2,f3,f4,f5]) rfl ?_;exact HE.o
 |some e0=>
  have cE:s.size<=64:=by
   obtain⟨m1,m2⟩:=aV hf;have:=(eP (cB.o.ok e0 m1)).2;rw[ly.1 m2]at this;exact this
  have U:=Z_ (oA (st:=st) (gen:=g) (log:=rest) hf);obtain⟨⟨T,er⟩,O,bk,ba⟩:∃(R:St×Int) (O:List (List UInt8)),gR st g rest es s=(R.1,R.2,O,if R.2=0 then an aB s.data.toList es else es)/\∀W (Ap:Option Kb) (cp:Nat),n_ W2 W2 W->bw W W (a_ Ap (s.size+2) cp) (l_ (ed s))->H_ h_ 69 #[JI #[e_ d_ st.aa,a_ A n c,e_ d_ (g:Nat),a_ Ab nb cb,a_ Ar nr cr],a_ Ap (s.size+2) cp] W (fB W (TB S w 2 W2) R (g:Nat) base O):=by
   have cf:(ed s).length=s.size+2:=by unfold ed;have:=eX s;simp only[p_,Jz,JP];omega
   refine⟨((aQ st g rest (ed s)).1,(aQ st g rest (ed s)).2.1),(aQ st g rest (ed s)).2.2,U.o,λW Ap cp hW hv=>?_⟩;rw[<-cf]at hv⊢;exact nA st hp _ W (λb M=>by have:=TB.lt Y.o H2.o.size M;have:=hW.size;omega) g HG.o base rest A Ab Ar n c nb cb nr cr (bt.o.j.ae λb M=>⟨M,hW.block b (TB.lt Y.o H2.o.size M)⟩) hl cx.o Ap cp (ed s) hv O_ cu cv.o
  have HC:=Z_ ba;have U:=Z_ bk;obtain⟨x0,x1,x2,x3,x4,x5⟩:=h2.cK;rw[ad]at x0 x1 x2 x3 x4 x5;clear ba bk hf h2;dsimp only[MN];go_upto_region 4 with fail;rw[<-ad]at x0 x1 x2 x3 x4 x5⊢;clear ad;have c6:=λW=>(uf s O_ W).1
  have c8:=λW=>(uf s O_ W).2.2.2
  have hs2:s.size<=2147483648:=by omega
  have c9:KD.wrap (s.size:Int)=(s.size:Int):=by unfold Lg;simp[KQ,KZ];omega
  have cg:x_ (∀W',n_ W2 W2 W'->W'.cell? ⟨w,0,b_⟩=c_ (e_ d_ st.aa)/\W'.cell? ⟨w,1,b_⟩=c_ (a_ A n c)/\W'.cell? ⟨w,2,b_⟩=c_ (e_ d_ g)/\W'.cell? ⟨w,3,b_⟩=c_ (a_ Ab nb cb)/\W'.cell? ⟨w,4,b_⟩=c_ (a_ Ar nr cr)):=Z_ λW' M=>by
   obtain⟨a0,a1,a2,a3,a4,-⟩:=(H2.o.go M).cK;exact⟨a0,a1,a2,a3,a4⟩
  have HD:x_ (n_ W2 W2 W2.drew):=Z_ B_.drew
  go_cut [8,9] (λf8 e9 wx=>∃(X:Nat) (A2:Option Kb) (Z c2:Nat) (t:Option Kb) (D G:Nat) (I:Option Kb) (J K:Nat),f8=.pointer (c_ ⟨X,0,b_⟩)/\e9=e_ d_ er/\x_ (n_ W2 W2 wx)/\x_ (wx.heap[X]?=c_ (f_ #[e_ d_ T.aa,a_ A2 Z c2,e_ d_ g,a_ t D G,a_ I J K] 44 (0,0)))/\x_ (sh (fO (TB S w 2 W2) W2 wx) wx T.files base O (a_ A2 Z c2) (a_ t D G) (a_ I J K)))
  case first=>
   go_region_held_law (λW':j_=>W'.cell? ⟨w,0,b_⟩=c_ (e_ d_ st.aa)/\W'.cell? ⟨w,1,b_⟩=c_ (a_ A n c)/\W'.cell? ⟨w,2,b_⟩=c_ (e_ d_ g)/\W'.cell? ⟨w,3,b_⟩=c_ (a_ Ab nb cb)/\W'.cell? ⟨w,4,b_⟩=c_ (a_ Ar nr cr))
    (exact cg.o _ zB)
    (first
    |(refine EJ (x:=.tmp 25) (y:=.tmp 27) cE rfl (W2:=W2) zB rfl (GH zH zN O_) rfl (GK hs2 zN zH zN) ?_;intro A5 c5 w5 ch HB5 bx;have df:=HB5.o.size;(first|have bf:=zX (x:=W2.heap.size) bx zN zN zH|have bf:=zX (x:=W2.heap.size+1) bx zN zN zH|have bf:=zX (x:=W2.heap.size+1+1) bx zN zN zH|skip))
    |(go_at_call 69;(with_reducible refine(HC.o _ A5 c5 HB5.o ch.o).mono ?_);rintro e w6 ⟨A2,Z,c2,t,D,G,I,J,K,rfl,bB,bb⟩;have HB6:x_ (n_ W2 W2 w6):=Z_ (HB5.o.trans (bb.mono HB5.o.size));(first|(have bg:=bf.go bb;obtain⟨e0,e1,e2,e3,e4,f0,f1,f2,f3,f4⟩:=bg.cells)|skip))
    |(go_at_call 69;(with_reducible refine(HC.o _ A5 c5 (dp HB5.o _) ((ch.o.below (ah _ _)).more (ah _ _).size)).mono ?_);rintro e w6 ⟨A2,Z,c2,t,D,G,I,J,K,rfl,bB,bb⟩;have HB6:x_ (n_ W2 W2 w6):=Z_ ((dp HB5.o _).trans (bb.mono (dp HB5.o _).size));have bg:=zeroAt.go (x:=w5.heap.size) (r_ w5 _) bb;obtain⟨e0,e1,e2,e3,e4,f0,f1,f2,f3,f4⟩:=bg.cells)
    |fail)
   all_goals(
    have hN:∀b,TB S w 2 W2 b->b<W2.heap.size:=λb M=>TB.lt Y.o H2.o.size M
    first
    |have HQ:=BQ hN bg O_ (by first|exact bf.lt|(simp;done)|fail) HB6.o bB T.aa g rfl
    |have HQ:=DY hN df HB6.o bB T.aa g
    |fail
    go_wp2_with fail;go_meet;exact⟨_,A2,Z,c2,t,D,G,I,J,K,rfl,rfl,HQ⟩)
  obtain⟨X,A2,Z,c2,t,D,G,I,J,K,rfl,rfl,bN,ck,dv⟩:=hcut;obtain⟨w3,rfl⟩:=N_ (wc);clear x0 x1 x2 x3 x4 x5 c6 c8 c9 cg HD HC;have h3:=H2.o.go bN.o;obtain⟨W4,bd,h4,bj⟩:=h3.sI T.aa g (a_ A2 Z c2) (a_ t D G) (a_ I J K);have bO:x_ (mE (TB S w 2 W4) W4 T.files base O es (a_ A2 Z c2) (a_ t D G) (a_ I J K) (a_ Al es.length cl)):=Z_ ⟨dv.o.ae λb M=>TB.kept Y.o h3.size bj (λk hk=>by have:=h3.l0;omega) b (TB.new H2.o.size bN.o.size b M),bt.o.l.ae λb M=>by
   obtain⟨a1,a2⟩:=TB.go Y.o H2.o.size bN.o b M;obtain⟨a3,a4⟩:=TB.kept Y.o h3.size bj (λk hk=>by have:=h3.l0;omega) b a1;exact⟨a3,a4.trans a2⟩⟩
  have H4:=Z_ h4;obtain⟨j0,j1,j2,j3,j4⟩:w3.cell? ⟨X,0,b_⟩=c_ (e_ d_ T.aa)/\w3.cell? ⟨X,1,b_⟩=c_ (a_ A2 Z c2)/\w3.cell? ⟨X,2,b_⟩=c_ (e_ d_ g)/\w3.cell? ⟨X,3,b_⟩=c_ (a_ t D G)/\w3.cell? ⟨X,4,b_⟩=c_ (a_ I J K):=by have h:=ck.o;simp[E_,h]
  obtain⟨p0,p1,p2,p3,p4,p5⟩:=h3.iZ;obtain⟨x0,x1,x2,x3,x4,x5⟩:=h3.cK;by_cases he:er=0
  rotate_left
  ·rw[I_ he]at U
   obtain⟨Wf,av,⟨f0,f1,f2,f3,f4,f5⟩,V⟩:=h4.ret;have HE:x_ (P (k_ (J_ #[JI #[e_ d_ T.aa,a_ A2 Z c2,e_ d_ g,a_ t D G,a_ I J K,a_ Al es.length cl],e_ d_ er])) Wf):=Z_ (by
    rw[HP.o,U.o];exact B6.fin h4 Y.o bO.o V)
   obtain⟨u0,u1,u2,u3,u4,u5⟩:=h4.cK;obtain⟨⟨s0,s1,s2,s3,s4,s5⟩,q0,q1,q2,q3,q4,q5⟩:=h4.gP;have eo:(er !=0)=true:=by simpa using he
   rw[bd]at u0 u1 u2 u3 u4 u5 s0 s1 s2 s3 s4 s5 q0 q1 q2 q3 q4 q5;generalize es.length=en at*;clear V h4 h3 bj he HP U;go_wp2;rw[<-bd,<-av];refine C_ (v:=J_ #[JI #[e_ d_ T.aa,a_ A2 Z c2,e_ d_ g,a_ t D G,a_ I J K,a_ Al en cl],e_ d_ er]) (by simp[results,Tryz.results33,go_sem,f0,f1,f2,f3,f4,f5]) rfl ?_;exact HE.o
  subst he;rw[G_ rfl]at U;obtain⟨NL,bR⟩:=N_ ((an aB s.data.toList es).length);have eb:x_ (H_ h_ 71 #[a_ Al es.length cl,g_ s] W4 λe w'=>∃A7 c7,e=k_ (a_ A7 NL c7)/\x_ (aS (TB S w 2 w') w' (a_ A7 NL c7) (an aB s.data.toList es))/\x_ (n_ W4 W4 w')):=Z_ ((iC es s _ W4 (TB S w 2 W4) (λb M=>TB.lt Y.o H4.o.size M) bO.o.l O_).mono λe w' ⟨A7,c7,h1,h2,h3⟩=>by
   rw[bR];exact⟨A7,c7,h1,Z_ (h2.ae λb M=>⟨TB.new H4.o.size h3.size b M,rfl⟩),Z_ h3⟩)
  have cm:=Z_ bR;obtain⟨u0,u1,u2,u3,u4,u5⟩:=h4.cK;rw[bd]at u5;generalize es.length=en at*;clear bR h4 h3 bj ck u0 u1 u2 u3 u4;go_wp2_with fail;rw[<-bd];clear bd u5 j0 j1 j2 j3 j4 p0 p1 p2 p3 p4 p5 x0 x1 x2 x3 x4 x5;refine eb.o.mono ?_;rintro e w7 ⟨A7,c7,rfl,ec,ct⟩;have h7:=H4.o.go ct.o;obtain⟨h8,b1⟩:=h7.xA (a_ A7 NL c7);have ev:=h7.l0;have b3:mE (TB S w 2 (w7.setCell ⟨w,5,b_⟩ (a_ A7 NL c7))) (w7.setCell ⟨w,5,b_⟩ (a_ A7 NL c7)) T.files base O (an aB s.data.toList es) (a_ A2 Z c2) (a_ t D G) (a_ I J K) (a_ A7 NL c7):=
   ⟨bO.o.j.ae λb M=>by
    obtain⟨a1,a2⟩:=TB.go Y.o H4.o.size ct.o b M;obtain⟨a3,a4⟩:=TB.kept Y.o h7.size b1 (λk hk=>by omega) b a1;exact⟨a3,a4.trans a2⟩,ec.o.ae λb M=>TB.kept Y.o h7.size b1 (λk hk=>by omega) b M⟩
  obtain⟨Wf,av,⟨f0,f1,f2,f3,f4,f5⟩,V⟩:=h8.ret;have HE:x_ (P (k_ (J_ #[JI #[e_ d_ T.aa,a_ A2 Z c2,e_ d_ g,a_ t D G,a_ I J K,a_ A7 NL c7],e_ d_ 0])) Wf):=Z_ (by
   rw[HP.o,U.o];rw[cm.o]at h8 b3 V⊢;exact B6.fin (er:=0) h8 Y.o b3 V)
  obtain⟨p0,p1,p2,p3,p4,p5⟩:=h7.iZ;obtain⟨x0,x1,x2,x3,x4,x5⟩:=h7.cK;obtain⟨u0,u1,u2,u3,u4,u5⟩:=h8.cK;obtain⟨⟨s0,s1,s2,s3,s4,s5⟩,r0,r1,r2,r3,r4,r5⟩:=h8.gP;clear h7 h8 b1 b3 V HP U cm;go_wp2;rw[<-av];refine C_ (v:=J_ #[JI #[e_ d_ T.aa,a_ A2 Z c2,e_ d_ g,a_ t D G,a_ I J K,a_ A7 NL c7],e_ d_ 0]) (by simp[results,Tryz.results33,go_sem,f0,f1,f2,f3,f4,f5]) rfl ?_;exact HE.o
