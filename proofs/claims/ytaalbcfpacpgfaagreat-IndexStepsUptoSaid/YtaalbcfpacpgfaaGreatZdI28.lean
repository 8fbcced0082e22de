import Derived.Deep.RegionWith
import Derived.Deep.DeepCutAuto
import Derived.BigRegion
import Derived.Test.YtaalbcfpacpgfaaGreatZdR11
import Derived.Test.YtaalbcfpacpgfaaGreatZdJE
import Derived.Test.YtaalbcfpacpgfaaGreatZdM5
import Derived.Test.YtaalbcfpacpgfaaGreatZdJB
import Derived.Test.YtaalbcfpacpgfaaGreatZdK7
import Derived.Test.YtaalbcfpacpgfaaGreatZdM3
import Derived.Test.YtaalbcfpacpgfaaGreatZdK3b
import Derived.Test.YtaalbcfpacpgfaaGreatZdI23
set_option linter.all false
set_option maxHeartbeats 16000000
set_option maxRecDepth 100000
open Bool renaming false->o_,true->v_
open Go renaming Addr->Kb,Calls->H_,Ending->KS,TypeId->Ki,Value->m_,World->j_
open Go.Ending renaming returned->k_
open Go.IntKind renaming i64->d_
open Go.Lib renaming byteCells->l_
open Go.Obj renaming cells->f_
open Go.Program renaming elem->K7
open Go.Proofs.Tryz renaming prog->h_
open Go.RowKit renaming Below->n_,Hid->x_,intOf->A_
open Go.Value renaming agg->JI,int->e_,pointer->i_,slice->a_,string->g_,tuple->J_
open Go.World renaming cell?->E_,frozen?->JW,setCell->Kd
open Option renaming none->b_,some->c_
open Or renaming inl->Ke
namespace Go.Proofs.YtaalbcfpacpgfaaGreat
open Go.RowKit Go.Lib Go.Vfs Go.Par Go.Shelf
def lX(b:List UInt8)(i:Nat)(R:St×Int):St×Int:=if R.2=0 then aD b i R.1 else R
variable{b:List UInt8}{i k d:Nat}
theorem Eh{T:St}:lX b i (T,0)=aD b i T:=by unfold lX;rw[G_ rfl]
theorem Eg{T:St}{e:Int}(h:e≠0):lX b i (T,e)=(T,e):=by unfold lX;rw[I_ h]
theorem By(b:List UInt8)(t:Bool)(st:St):ax b (a7 t) st=(if(lX b 2 (lX b 1 (aD b 0 st))).2=0/\t=v_ then aD b 3 (lX b 2 (lX b 1 (aD b 0 st))).1 else lX b 2 (lX b 1 (aD b 0 st))):=by
 by_cases h0:(aD b 0 st).2=0
 ·have G:lX b 1 (aD b 0 st)=aD b 1 (aD b 0 st).1:=by unfold lX;rw[G_ h0]
  rw[G];by_cases h1:(aD b 1 (aD b 0 st).1).2=0
  ·have D:lX b 2 (aD b 1 (aD b 0 st).1)=aD b 2 (aD b 1 (aD b 0 st).1).1:=by unfold lX;rw[G_ h1]
   rw[D];by_cases h2:(aD b 2 (aD b 1 (aD b 0 st).1).1).2=0
   ·cases t
    ·simp only[a7,ax,h0,h1,h2,Ml,G_,Bool.false_eq_true,if_false,and_false,reduceIte]
     exact Prod.ext rfl h2.symm
    simp only[a7,ax,h0,h1,h2,Ml,G_,and_self,reduceIte];by_cases I:(aD b 3 (aD b 2 (aD b 1 (aD b 0 st).1).1).1).2=0
    ·rw[G_ I];exact Prod.ext rfl I.symm
    rw[I_ I]
   cases t<;>simp[a7,ax,h0,h1,h2]
  have D:lX b 2 (aD b 1 (aD b 0 st).1)=aD b 1 (aD b 0 st).1:=by unfold lX;rw[I_ h1]
  rw[D];cases t<;>simp[a7,ax,h0,h1]
 have G:lX b 1 (aD b 0 st)=aD b 0 st:=by unfold lX;rw[I_ h0]
 have D:lX b 2 (aD b 0 st)=aD b 0 st:=by unfold lX;rw[I_ h0]
 rw[G,D];cases t<;>simp[a7,ax,h0]
theorem Ef{R:St×Int}(h:Calm R.1.files k d):Calm (lX b i R).1.files (k+1) (d+b.length):=by
 unfold lX;split
 ·exact lI h i
 exact h.mono O_ O_
theorem tD(hi:i≠0){R:St×Int}(h:Calm R.1.files k d):Calm (lX b i R).1.files (k+1) d:=by
 have e:lX b i R=lX [] i R:=by
  unfold lX
  match i,hi with
  |1,_=>rfl
  |2,_=>rfl
  |_+3,_=>rfl
 rw[e];exact Ef (b:=[]) h
theorem tE{R:St×Int}(h:R.1.aa<=9223372036854775807):(lX b i R).1.aa<=9223372036854775807:=by
 unfold lX;split
 ·exact iE h i
 exact h
theorem AQ{R:St×Int}:bV (lX b i R).1.files aK=bV R.1.files aK:=by
 unfold lX;split
 ·exact rW i
 rfl
section
variable{S:Nat->Prop}{w W W':j_}{T T':St}{pw g:Int}{v bv rv u u':m_}{X:Nat}
theorem hZ.lt(h:hZ S w T pw g v bv rv X u W)(hS:∀b,S b->b<w.heap.size):∀b,xV S w X W b->b<W.heap.size:=λb t=>uz hS h.j5.size b t.1
theorem hZ.go(h:hZ S w T pw g v bv rv X u W)(hS:∀b,S b->b<w.heap.size)(D:n_ W W W'):hZ S w T pw g v bv rv X u W':=by
 have hx:=F_ h.box;have G:=iz hS h.j5.size (Kept.ar (F:=λ_=>False) D) (λk I=>I.elim);exact⟨(D.block _ hx).trans h.box,h.j5.go D,h.ref.ae λb t=>⟨⟨(G b t.1).1,t.2⟩,(G b t.1).2⟩,h.lo⟩
theorem hZ.next(h:hZ S w T pw g v bv rv X u W)(hS:∀b,S b->b<w.heap.size)(I:n_ W W W')(hr:aA (fO (xV S w X W) W W') W' u' T'.files):hZ S w T' pw g v bv rv X u' ((W'.setCell ⟨X,0,b_⟩ (e_ d_ T'.aa)).setCell ⟨X,1,b_⟩ u'):=by
 have hx:=F_ h.box;have U:=h.j5.size;have V:=I.size;have Y:W'.heap[X]?=c_ (f_ #[e_ d_ T.aa,u] 33 (0,0)):=(I.block _ hx).trans h.box;have M:=xM W' X (e_ d_ T'.aa) u';have Z:=M.size;refine⟨dP (eS Y),(h.j5.go I).GX (n:=X) h.lo (M.below O_ (λk hk=>by omega)),hr.ae λb t=>?_,h.lo⟩;have G:b≠X:=by
  rcases t with t|t
  ·exact t.2
  omega
 have O:b<W':=by
  rcases t with t|t
  ·have:=uz hS U b t.1;omega
  exact t.2
 refine⟨⟨?_,G⟩,M.block b O G⟩;rcases t with t|t
 ·rcases t.1 with D|D
  ·exact .inl D
  exact .inr ⟨D.1,by omega⟩
 exact .inr ⟨by omega,by omega⟩
end
structure Bb(w:j_)(pw:Int)(v:m_)(g:Nat)(bv rv:m_)(rows:List (List UInt8))(k:Nat)(s:m_)(wr:j_):Prop where
 j5:J5 w pw v (g:Nat) bv rv wr
 own:Par.Own wr (w.heap.size+2) 5 s (l_ (bE (g+1) (cy rows.length::rows.take k)))
variable{w wr w2 X w5:j_}{v u u2:m_}{kf d:Nat}{pow aa:Int}
theorem Bb.next{w3:j_}{pw:Int}{bv rv:m_}{g:Nat}{rows:List (List UInt8)}{k:Nat}{s I:m_}(h:Bb w pw v g bv rv rows k s wr)(M:k<rows.length){L:List UInt8}(O:rows.getD k []=L)(D:n_ wr wr w2)
  (t:Par.Own w3 (w+2) 5 I (l_ (bE (g+1) (cy rows.length::rows.take k))++l_ (aw (g+1) L))) (U:w2.grownBy w3 s.ownBlock):Bb w pw v g bv rv rows (k+1) I w3:=by
 have Y:=h.j5.size;have V:=D.size;have G:n_ (w+2) w2 w3:=jE (h.own.below D) O_ U;refine⟨(h.j5.go D).GX L_ G,?_⟩;have e:bE (g+1) (cy rows.length::rows.take (k+1))=bE (g+1) (cy rows.length::rows.take k)++aw (g+1) L:=by
  rw[y_ M,show rows[k]=L by rw[<-O,s_,w_ M];rfl,<-Ka,lr]
 rw[e,byteCells_append];exact t
theorem ui(g:Nat)(x:List UInt8)(rows:List (List UInt8))(k:Nat):(bE g (x::rows.take k)).length<=(bE g (x::rows)).length:=by
 rw[qR,qR,Jz,Jz,List.flatten_cons,List.flatten_cons,p_,p_];have:=um rows k;have:(rows.take k).length<=rows.length:=List.length_take_le' _ _;omega
theorem BW(st:St)(hp:st.aa<=9223372036854775807)(S:Nat->Prop)(w:j_)(hS:∀b,S b->b<w.heap.size)(g:Nat)(hg:g+1<4294967296)(base rest:List (List UInt8))(A Ab Ar:Option Kb)(n c nb cb nr cr:Nat)(h:sh S w st.files base rest (a_ A n c) (a_ Ab nb cb) (a_ Ar nr cr))(hc:Calm st.files kf d)(ih:kf<=1000)(hd:d<=600000)
  (Av:Option Kb) (cv:Nat) (rows:List (List UInt8)) (hv:al (·<w.heap.size) w (a_ Av rows.length cv) rows) (hr:∀l∈rows,l.length<=65536) (iv:rows.length<=20000) (hE:(bE (g+1) (cy rows.length::rows)).length<=300000):
  H_ h_ 73 #[JI #[e_ d_ st.aa,a_ A n c,e_ d_ (g:Nat),a_ Ab nb cb,a_ Ar nr cr],a_ Av rows.length cv] w λe w'=>∃r,ax (bE (g+1) (cy rows.length::rows)) (a7 (bV st.files aK)) st=r/\fB w S r ((if r.2=0 then g+1 else g:Nat):Int) (if r.2=0 then rows else base) (if r.2=0 then []else rest) e w':=by
 have h0:=J5.start w st.aa (g:Nat) (a_ A n c) (a_ Ab nb cb) (a_ Ar nr cr);have H0:=Z_ h0;have H:=Z_ h;have U:=Z_ hS;have HV:=Z_ hv;have cF:=Z_ hc;have e5:x_ (∀l∈rows,l.length<=65536):=Z_ hr;obtain⟨_,_,hG,hH,hJ,e6⟩:=hv.open_;injection hG with ct e7 cu;rw[<-cu]at hH hJ;rw[<-ct]at e6;clear ct e7 cu;have hM:(g:Int)+1<4294967296:=by omega
 have c6:x_ (∀(W:j_) (u:m_) (L:List UInt8),L.length<=65536->bw W W u (l_ L)->H_ h_ 113 #[e_ d_ ((g:Int)+1),u] W λe w'=>∃Z c3,e=k_ (a_ Z (aw (g+1) L).length c3)/\x_ (Par.Own w' W 5 (a_ Z (aw (g+1) L).length c3) (l_ (aw (g+1) L)))/\x_ (n_ W W w')):=Z_ λW u L hL hs=>by
  have h1:=mz (g+1) hg u L W hs O_;rw[show((g+1:Nat):Int)=(g:Int)+1 by omega]at h1;exact h1.mono λe w' ⟨Z,c3,e1,e2,e3⟩=>⟨Z,c3,e1,Z_ e2,Z_ e3⟩
 have e8:=Z_ (qa rows.length O_);clear h0 h hS hv hc hr;obtain⟨P,hP⟩:=N_ ((λ(e:KS) (w':j_)=>∃r,ax (bE (g+1) (cy rows.length::rows)) (a7 (bV st.files aK)) st=r/\fB w S r ((if r.2=0 then g+1 else g:Nat):Int) (if r.2=0 then rows else base) (if r.2=0 then []else rest) e w'));rw[<-hP];have HP:=Z_ hP;clear hP;go_enter Tryz.func73,Tryz.ntmps73;obtain⟨x0,x1,V,x3,x4,x5,x6,x7,x8,x9,ad,ak,av,a1,a2,ba,bb,bd,bf,bg⟩:=H0.o.cells;go_upto_region 1 with fail
 go_cut [6] (λs wx=>x_ (Bb w st.aa (a_ A n c) g (a_ Ab nb cb) (a_ Ar nr cr) rows 0 s wx))
 case first=>
  refine KE (S:=λw'=>w'.cell? ⟨w,2,b_⟩=c_ (e_ d_ (g:Nat))) K_ ?_;refine Jy (i:=0) (v:=i_ (c_ ⟨w,2,b_⟩)) rfl K_ K_ K_ (λ_ _ _ h=>h) (Ke ⟨by rfl,λw' hS=>by go_simp⟩) V ?_;refine Jy (i:=1) (v:=e_ d_ (g:Nat)) rfl K_ K_ K_ (λ_ _ _ h=>h) (Ke ⟨by rfl,λw' hS=>by go_simp⟩) V ?_;refine Jy (i:=2) (v:=e_ d_ ((g:Int)+1)) rfl K_ K_ K_ (λ_ _ _ h=>h) (Ke ⟨by rfl,λw' hS=>by go_simp;exact wrap64 _ O_ O_⟩) V ?_;refine Jy (i:=3) (v:=a_ Av rows.length cv) rfl K_ K_ K_ (λ_ _ _ h=>h) (Ke ⟨by rfl,λw' hS=>by go_simp⟩) V ?_;refine Jy (i:=4) (v:=e_ d_ (rows.length:Nat)) rfl K_ K_ K_ (λ_ _ _ h=>h) (Ke ⟨by rfl,λw' hS=>by go_simp⟩) V ?_;refine ag 5 λK hK=>?_
  go_simp;refine(e8.o _).mono ?_;rintro e w2 ⟨A2,c2,rfl,fb,bk⟩;have h2:=(H0.o.go (B_.drew)).go bk;have hN:=h2.cells.2.2.1;have bN:=Z_ h2;have c8:=Z_ fb;clear h2 fb bk;refine hK _ _ ⟨hN,?_⟩;clear hK K;refine ag 6 λK hK=>?_
  go_simp;refine(c6.o _ _ (cy rows.length) (by rw[ep];omega) (Own.dH c8.o)).mono ?_;rintro e w3 ⟨Z,c3,rfl,hO,hQ⟩;have h3:=bN.o.go hQ.o;have fi:=h3.cells.2.2.1;have hR:x_ (Bb w st.aa (a_ A n c) g (a_ Ab nb cb) (a_ Ar nr cr) rows 0 (a_ Z (aw (g+1) (cy rows.length)).length c3) w3):=Z_ ⟨h3,by
   have:=hO.o.base (base':=w.heap.size+2) bN.o.size;rw[show bE (g+1) (cy rows.length::rows.take 0)=aw (g+1) (cy rows.length) by rw[List.take_zero,dr,Dc,La]];exact this⟩
  clear h3;refine hK _ _ ⟨fi,?_⟩;clear hK K;refine ag 7 λK hK=>?_
  go_simp;refine hK _ _ ⟨fi,?_⟩;clear hK K;refine J6 K_ ?_ _;go_wp2;go_meet;exact hR
 clear x0 x1 V x3 x4 x5 x6 x7 x8 x9 ad ak av a1 a2 ba bb bd bf bg H0 e8;have fr:=hcut;clear hcut;go_wp2
 go_loopw [6,7] (λs i wr=>∃k:Nat,k<=rows.length/\i=e_ d_ k/\x_ (Bb w st.aa (a_ A n c) g (a_ Ab nb cb) (a_ Ar nr cr) rows k s wr)) (λ_ i _=>rows.length - (intOf i).toNat)
 case atStart=>exact⟨0,by omega,rfl,fr⟩
 obtain⟨k,hk,rfl,M⟩:=hrel;obtain⟨x0,x1,V,x3,x4,x5,x6,x7,x8,x9,ad,ak,av,a1,a2,ba,bb,bd,bf,bg⟩:=M.o.j5.cells;by_cases cg:k<rows.length
 ·obtain⟨b,off,Ak,ck,rfl,j0,hcell,cx⟩:=e6.o wr M.o.j5.below k cg
  have fz:(rows.getD k []).length<=65536:=by
   rw[s_,w_ cg];exact e5.o _ (JB cg)
  generalize hL:rows.getD k []=L at*;have HL:=Z_ hL;have hT:=Z_ cx;clear hL cx;have j1:¬(65536:Int)<(L.length:Int):=by omega
  go_upto_region 7 with fail;obtain⟨As,cs,I⟩:=Own.Dj M.o.own;obtain⟨Ns,bO⟩:=N_ ((bE (g+1) (cy rows.length::rows.take k)).length);rw[<-bO]at I;have gi:=Z_ bO;clear bO;subst I;have hU:b<wr:=by have:=M.o.j5.size;omega
  have j2:Ns<=300000:=by rw[gi.o];exact Kj (ui _ _ _ _) hE
  refine KE (S:=λw'=>w'.cell? ⟨w,2,b_⟩=c_ (e_ d_ (g:Nat))/\w'.cell? ⟨b,off+k,b_⟩=c_ (a_ Ak L.length ck)) K_ ?_;refine Jy (i:=0) (v:=a_ As Ns cs) rfl K_ K_ K_ (λ_ _ _ h=>h) (Ke ⟨by rfl,λw' hS=>by obtain⟨s0,s1⟩:=hS;go_simp⟩) ⟨V,hcell⟩ ?_;refine Jy (i:=1) (v:=i_ (c_ ⟨w,2,b_⟩)) rfl K_ K_ K_ (λ_ _ _ h=>h) (Ke ⟨by rfl,λw' hS=>by obtain⟨s0,s1⟩:=hS;go_simp⟩) ⟨V,hcell⟩ ?_;refine Jy (i:=2) (v:=e_ d_ (g:Nat)) rfl K_ K_ K_ (λ_ _ _ h=>h) (Ke ⟨by rfl,λw' hS=>by obtain⟨s0,s1⟩:=hS;go_simp⟩) ⟨V,hcell⟩ ?_;refine Jy (i:=3) (v:=e_ d_ ((g:Int)+1)) rfl K_ K_ K_ (λ_ _ _ h=>h) (Ke ⟨by rfl,λw' hS=>by obtain⟨s0,s1⟩:=hS;go_simp;exact wrap64 _ O_ O_⟩) ⟨V,hcell⟩ ?_;refine Jy (i:=4) (v:=a_ (c_ ⟨b,off,b_⟩) rows.length cv) rfl K_ K_ K_ (λ_ _ _ h=>h) (Ke ⟨by rfl,λw' hS=>by obtain⟨s0,s1⟩:=hS;go_simp⟩) ⟨V,hcell⟩ ?_;refine Jy (i:=5) (v:=e_ d_ (k:Nat)) rfl K_ K_ K_ (λ_ _ _ h=>h) (Ke ⟨by rfl,λw' hS=>by obtain⟨s0,s1⟩:=hS;go_simp⟩) ⟨V,hcell⟩ ?_;refine Jy (i:=6) (v:=i_ (c_ ⟨b,off+k,b_⟩)) rfl K_ K_ K_ (λ_ _ _ h=>h) (Ke ⟨by rfl,λw' hS=>by obtain⟨s0,s1⟩:=hS;go_simp⟩) ⟨V,hcell⟩ ?_;refine Jy (i:=7) (v:=a_ Ak L.length ck) rfl K_ K_ K_ (λ_ _ _ h=>h) (Ke ⟨by rfl,λw' hS=>by obtain⟨s0,s1⟩:=hS;go_simp⟩) ⟨V,hcell⟩ ?_;refine ag 8 λK hK=>?_
  go_simp;refine(c6.o _ _ L fz ((bw.drewN hT.o 1).more (by have:=M.o.j5.size;simp;omega))).mono ?_;rintro e w2 ⟨A2,c2,rfl,c8,hV⟩;have bk:n_ wr wr w2:=((JG _ wr).drew).trans hV.o;have bN:=Z_ (M.o.j5.go bk);have hs2:w2.cell? ⟨w,2,b_⟩=c_ (e_ d_ (g:Nat))/\w2.cell? ⟨b,off+k,b_⟩=c_ (a_ Ak L.length ck):=⟨bN.o.cells.2.2.1,(bk.cell (p:=⟨b,off+k,b_⟩) hU).trans hcell⟩;have cB:=Z_ bk;clear bk;refine hK _ _ ⟨hs2,?_⟩;clear hK K;refine ag 9 λK hK=>?_
  have bn:=M.o.own.below cB.o;have gn:(aw (g+1) L).length<=70000:=by rw[bc];omega
  refine gj _ (.tmp 30) (.tmp 38) 24 rfl (w+2) 5 _ fD (a_ As Ns cs) (l_ (bE (g+1) (cy rows.length::rows.take k))) rfl bn _ _ (l_ (aw (g+1) L)) rfl (Own.dH c8.o) (aZ _) (by rw[t_,t_,<-gi.o];omega) (by have:=bN.o.size;omega) (λv3 w5 h2 h3 h4=>?_);have c9:=Z_ (M.o.next cg HL.o cB.o h2 h3);have gp:=c9.o.j5.cells.2.2.1;have gv:w5.cell? ⟨b,off+k,b_⟩=c_ (a_ Ak L.length ck):=by
   have j3:=c9.o.j5.below;exact((jE bn (by have:=bN.o.size;omega) h3).cell (p:=⟨b,off+k,b_⟩) (by show b<_;omega)).trans hs2.2
  refine hK _ _ ⟨⟨gp,gv⟩,?_⟩;obtain⟨Z,c3,gy⟩:=h2.form;obtain⟨N3,gz⟩:=N_ ((l_ (bE (g+1) (cy rows.length::rows.take k))++l_ (aw (g+1) L)).length);rw[<-gz]at gy;clear hK K h2 h3 h4 bn gz;subst gy;refine ag 10 λK hK=>?_
  go_simp;refine hK _ _ ⟨⟨gp,gv⟩,?_⟩;clear hK K;refine J6 K_ ?_ _;go_wp2;go_roundw
  case rel=>exact⟨k+1,by omega,by go_num,c9⟩
  simp[intOf];omega
 have g0:k=rows.length:=by omega
 have bB:=M.o.own;rw[g0,JO]at bB;obtain⟨E,df⟩:=N_ (bE (g+1) (cy rows.length::rows));rw[<-df]at bB hE;have g3:=Z_ df;have dv:=Z_ M.o.j5;have eb:=Z_ bB;clear g0 bB df M c6 fr;obtain⟨As,cs,I⟩:=Own.Dj eb.o;obtain⟨Ns,bO⟩:=N_ (E.length);rw[<-bO]at I;clear bO;subst I;obtain⟨T0,e0,b3⟩:∃T0 e0,aD E 0 st=(T0,e0):=⟨_,_,rfl⟩;have ec:x_ (H_ h_ 14 #[JI #[e_ d_ st.aa,a_ A n c],g_ ⟨#[110,101,120,116]⟩,a_ (c_ ⟨wr,0,b_⟩) 1 1] (wr.alloc (f_ #[a_ As Ns cs] 24)) λe w'=>∃A2 n2 c2,e=k_ (J_ #[JI #[e_ d_ T0.aa,a_ A2 n2 c2],e_ d_ e0])/\x_ (hZ S w T0 st.aa (g:Nat) (a_ A n c) (a_ Ab nb cb) (a_ Ar nr cr) w' (a_ A2 n2 c2) (w'.alloc (f_ #[e_ d_ T0.aa,a_ A2 n2 c2] 33)))):=Z_ (by
  have Y:=ah wr (f_ #[a_ As Ns cs] 24);have ee:=dv.o.go Y;have hz:=dv.o.size;have hW:=ee.size;have g4:=al.Hg (F:=λ_=>False) (λj hj=>hj.elim) (a8.ae (S:=(·<wr.heap.size)) (S':=Out wr λ_=>False) (Own.dH eb.o) λj hj=>⟨⟨hj,λhf=>hf⟩,rfl⟩) wr rfl;refine(pr st hp _ S _ (λb Y=>by have:=U.o b Y;omega) (H.o.gu U.o ee.below).ref a6 (by decide) (by have:=cF.o.files;omega) (λf hf=>by have:=cF.o.data f hf;omega) _ [E] (g4.sub λj hj=>hj.1) (by simp;omega)).mono ?_;rintro e w' ⟨v',rfl,g1,g2⟩;have gn:[E].flatten=E:=by simp
  simp only[gn]at g1⊢;rw[show br st a6 E=(T0,e0)from b3]at g1⊢;obtain⟨A2,c2,rfl,-,-⟩:=g1.form;exact⟨A2,_,c2,rfl,Z_ (hZ.late U.o (ee.go g2) g1 hW)⟩)
 obtain⟨T1,e1,b5⟩:∃T1 e1,lX E 1 (T0,e0)=(T1,e1):=⟨_,_,rfl⟩;obtain⟨T2,e2,b6⟩:∃T2 e2,lX E 2 (T1,e1)=(T2,e2):=⟨_,_,rfl⟩;obtain⟨hl,eg⟩:∃hl,bV st.files aK=hl:=⟨_,rfl⟩;obtain⟨T3,e3,en⟩:∃T3 e3,(if e2=0/\hl=v_ then aD E 3 T2 else(T2,e2))=(T3,e3):=⟨_,_,rfl⟩;have ha:x_ (ax E (a7 (bV st.files aK)) st=(T3,e3)):=Z_ (by rw[By,b3,b5,b6,eg];exact en);have ch:x_ (Calm T0.files (kf+1) (d+E.length)/\T0.aa<=9223372036854775807):=Z_ (by have h1:=lI (b:=E) cF.o 0;have h2:=iE (b:=E) hp 0;rw[b3]at h1 h2;exact⟨h1,h2⟩);have cc:x_ (Calm T1.files (kf+1+1) (d+E.length)/\T1.aa<=9223372036854775807):=Z_ (by have h1:=tD (b:=E) (i:=1) O_ (R:=(T0,e0)) ch.o.1;have h2:=tE (b:=E) (i:=1) (R:=(T0,e0)) ch.o.2;rw[b5]at h1 h2;exact⟨h1,h2⟩);have cl:x_ (Calm T2.files (kf+1+1+1) (d+E.length)/\T2.aa<=9223372036854775807):=Z_ (by have h1:=tD (b:=E) (i:=2) O_ (R:=(T1,e1)) cc.o.1;have h2:=tE (b:=E) (i:=2) (R:=(T1,e1)) cc.o.2;rw[b6]at h1 h2;exact⟨h1,h2⟩);have hX:x_ (bV T2.files aK=hl):=Z_ (by
  have h0:=rW (b:=E) (st:=st) 0;have h1:=AQ (b:=E) (i:=1) (R:=(T0,e0));have h2:=AQ (b:=E) (i:=2) (R:=(T1,e1));rw[b3]at h0;rw[b5]at h1;rw[b6]at h2;simp only at h0 h1 h2;rw[h2,h1,h0,eg])
 have hh:=Z_ b5;have ho:=Z_ b6;have hq:=Z_ en;clear b3 b5 b6 en eg;go_upto_region 8 with fail
 go_cut [8,9] (λf8 e9 wx=>∃(X:Nat) (A2:Option Kb) (n2 c2:Nat),f8=i_ (c_ ⟨X,0,b_⟩)/\e9=e_ d_ e0/\x_ (hZ S w T0 st.aa (g:Nat) (a_ A n c) (a_ Ab nb cb) (a_ Ar nr cr) X (a_ A2 n2 c2) wx))
 case first=>
  go_wp2_with fail;refine ec.o.mono ?_;rintro e w6 ⟨A2,n2,c2,rfl,hY⟩;clear ec;go_wp2;go_meet;exact⟨_,A2,n2,c2,rfl,rfl,hY⟩
 obtain⟨X,A2,n2,c2,rfl,rfl,bp⟩:=hcut;clear x0 x1 V x3 x4 x5 x6 x7 x8 x9 ad ak av a1 a2 ba bb bd bf bg ec eb dv;have h5:x_ (d_.wrap ((g:Int)+1)=(g:Int)+1):=Z_ (wrap64 _ O_ O_);clear hg hM;have ht:=Z_ bp.o.j5.cells;obtain⟨t0,t1,t2,t3⟩:=bp.o.cells;obtain⟨W1,rfl⟩:∃W,W=wc:=⟨_,rfl⟩
 go_upto_if 49 with fail
 go_cut [9] (λe9 wx=>∃(A1:Option Kb) (n1 c1:Nat),e9=e_ d_ e1/\x_ (hZ S w T1 st.aa (g:Nat) (a_ A n c) (a_ Ab nb cb) (a_ Ar nr cr) X (a_ A1 n1 c1) wx))
 case first=>
  by_cases he:e0=0
  ·subst he
   have D:aD E 1 T0=(T1,e1):=by rw[<-hh.o,Eh]
   have t:=tw T0 ch.o.2 (a_ A2 n2 c2) (xV S w X W1) W1 (bp.o.lt U.o) bp.o.ref a6 (by decide) (by have:=ch.o.1.files;omega);rw[show dG T0 a6=(T1,e1)from D]at t;have G:=Z_ t;clear D t;go_wp2_with fail;refine G.o.mono ?_;rintro e w7 ⟨v7,rfl,g1,g2⟩;obtain⟨A7,c7,rfl,-,-⟩:=g1.form;have bt:=Z_ (bp.o.next U.o g2 g1);obtain⟨q0,q1,q2,q3⟩:=(bp.o.go U.o g2).cells;clear g1 g2 t0 t1 t2 t3;go_wp2;go_meet;exact⟨A7,_,c7,rfl,bt⟩
  have eo:(e0==0)=false:=by simpa using he
  have D:T1=T0/\e1=e0:=by have:=hh.o;rw[Eg he]at this;injection this with x y;exact⟨x.symm,y.symm⟩
  have bj:=Z_ D;clear D he;go_wp2;go_meet;exact⟨_,_,_,by rw[bj.o.2],by rw[bj.o.1];exact bp⟩
 case rest=>
 obtain⟨A1,n1,c1,rfl,bx⟩:=hcut;clear t0 t1 t2 t3 ht;have hy:=Z_ bx.o.j5.cells;obtain⟨t0,t1,t2,t3⟩:=bx.o.cells;obtain⟨W2,rfl⟩:∃W,W=wc:=⟨_,rfl⟩
 go_upto_if 56 with fail
 go_cut [9] (λe9 wx=>∃(A2:Option Kb) (n2 c2:Nat),e9=e_ d_ e2/\x_ (hZ S w T2 st.aa (g:Nat) (a_ A n c) (a_ Ab nb cb) (a_ Ar nr cr) X (a_ A2 n2 c2) wx))
 case first=>
  by_cases he:e1=0
  ·subst he
   have D:aD E 2 T1=(T2,e2):=by rw[<-ho.o,Eh]
   have t:=xd T1 cc.o.2 (a_ A1 n1 c1) (xV S w X W2) W2 (bx.o.lt U.o) bx.o.ref a6 dj (by decide) (by decide) (by have:=cc.o.1.files;omega) (λf hf=>by have:=cc.o.1.data f hf;omega);rw[show db T1 a6 dj=(T2,e2)from D]at t;have G:=Z_ t;clear D t;go_wp2_with fail;refine G.o.mono ?_;rintro e w7 ⟨v7,rfl,g1,g2⟩;obtain⟨A7,c7,rfl,-,-⟩:=g1.form;have bt:=Z_ (bx.o.next U.o g2 g1);obtain⟨q0,q1,q2,q3⟩:=(bx.o.go U.o g2).cells;clear g1 g2 t0 t1 t2 t3;go_wp2;go_meet;exact⟨A7,_,c7,rfl,bt⟩
  have eo:(e1==0)=false:=by simpa using he
  have D:T2=T1/\e2=e1:=by have:=ho.o;rw[Eg he]at this;injection this with x y;exact⟨x.symm,y.symm⟩
  have bj:=Z_ D;clear D he;go_wp2;go_meet;exact⟨_,_,_,by rw[bj.o.2],by rw[bj.o.1];exact bx⟩
 case rest=>
 obtain⟨A2,n2,c2,rfl,bR⟩:=hcut;clear t0 t1 t2 t3 hy;obtain⟨t0,t1,t2,t3⟩:=bR.o.cells;obtain⟨BB,b0⟩:∃BB:Bool,BB=(decide (e2=0)&&hl):=⟨_,rfl⟩;have hA:=Z_ b0;obtain⟨W3,rfl⟩:∃W,W=wc:=⟨_,rfl⟩;go_upto_region 13 with fail
 go_cut [67] (λh6 wx=>h6=.bool BB/\x_ (hZ S w T2 st.aa (g:Nat) (a_ A n c) (a_ Ab nb cb) (a_ Ar nr cr) X (a_ A2 n2 c2) wx))
 case first=>
  by_cases he:e2=0
  ·subst he
   have Y:BB=hl:=by rw[b0];simp
   subst Y;have G:=Z_ (nk T2 (a_ A2 n2 c2) (xV S w X W3) W3 (bR.o.lt U.o) bR.o.ref aK (by decide) (by decide) (λf hf=>by have:=cl.o.1.data f hf;omega));rw[hX.o]at G;clear b0;go_wp2_with fail;refine G.o.mono ?_;rintro e w7 ⟨rfl,g2⟩;have bt:=Z_ (bR.o.go U.o g2);clear g2 t0 t1 t2 t3;go_wp2;go_meet;exact⟨rfl,bt⟩
  have eo:(e2==0)=false:=by simpa using he
  have Y:BB=false:=by rw[b0,JJ he];rfl
  subst Y;clear he b0;go_wp2;go_meet;exact⟨rfl,bR⟩
 case rest=>
 obtain⟨rfl,O⟩:=hcut;clear t0 t1 t2 t3 bR b0;obtain⟨t0,t1,t2,t3⟩:=O.o.cells;obtain⟨W4,rfl⟩:∃W,W=wc:=⟨_,rfl⟩
 go_upto_if 67 with fail
 go_cut [9] (λe9 wx=>∃(Z:Option Kb) (n3 c3:Nat),e9=e_ d_ e3/\x_ (hZ S w T3 st.aa (g:Nat) (a_ A n c) (a_ Ab nb cb) (a_ Ar nr cr) X (a_ Z n3 c3) wx))
 case first=>
  cases BB
  ·have D:T3=T2/\e3=e2:=by
    have h1:=hA.o;have h2:=hq.o;rw[I_ (by rintro⟨rfl,rfl⟩;simp at h1)]at h2;injection h2 with x y;exact⟨x.symm,y.symm⟩
   have bj:=Z_ D;clear D;go_wp2;go_meet;exact⟨_,_,_,by rw[bj.o.2],by rw[bj.o.1];exact O⟩
  have D:aD E 3 T2=(T3,e3):=by
   have h1:=hA.o;have h2:=hq.o;rw[G_ (by
    have:=h1.symm;rw[Ku]at this;exact⟨Kv this.1,this.2⟩)]at h2
   exact h2
  have t:=lV T2 cl.o.2 (a_ A2 n2 c2) (xV S w X W4) W4 (O.o.lt U.o) O.o.ref aK (by decide) (by have:=cl.o.1.files;omega) (λf hf=>by have:=cl.o.1.data f hf;omega) 0;rw[show aF T2 aK 0=(T3,e3)from D]at t;have G:=Z_ t;clear D t;go_wp2_with fail;refine G.o.mono ?_;rintro e w7 ⟨v7,rfl,g1,g2⟩;obtain⟨A7,c7,rfl,-,-⟩:=g1.form;have bt:=Z_ (O.o.next U.o g2 g1);obtain⟨q0,q1,q2,q3⟩:=(O.o.go U.o g2).cells;clear g1 g2 t0 t1 t2 t3;go_wp2;go_meet;exact⟨A7,_,c7,rfl,bt⟩
 case rest=>
 obtain⟨Z,n3,c3,rfl,b1⟩:=hcut;clear t0 t1 t2 t3 O;obtain⟨t0,t1,t2,t3⟩:=b1.o.cells;obtain⟨x0,x1,V,x3,x4,x5,x6,x7,x8,x9,ad,ak,av,a1,a2,ba,bb,bd,bf,bg⟩:=b1.o.j5.cells;obtain⟨W5,rfl⟩:∃W,W=wc:=⟨_,rfl⟩;have ev:=Z_ (b1.o.j5.files T3.aa (a_ Z n3 c3));have g5:=iz U.o b1.o.j5.size (sI w W5 (e_ d_ T3.aa) (a_ Z n3 c3) 0 1) (λk hk=>.inl hk);have hB:x_ (aA (jo S w ((W5.setCell ⟨w,0,b_⟩ (e_ d_ T3.aa)).setCell ⟨w,1,b_⟩ (a_ Z n3 c3))) ((W5.setCell ⟨w,0,b_⟩ (e_ d_ T3.aa)).setCell ⟨w,1,b_⟩ (a_ Z n3 c3)) (a_ Z n3 c3) T3.files):=Z_ ((b1.o.ref.sub λb Y=>Y.1).ae g5);by_cases he:e3=0
 case neg=>
  have eo:(e3 !=0)=true:=by simpa using he
  have h1:=H.o.gu U.o b1.o.j5.below;have cd:=Z_ (ev.o.fin (er:=e3) (T:=T3) (base:=base) (rest:=rest) U.o ⟨hB.o,(h1.rb.sub λb Y=>.inl Y).ae g5,(h1.rr.sub λb Y=>.inl Y).ae g5⟩);have h7:=Z_ he;clear h1 g5 he;go_wp2;refine C_ (v:=J_ #[JI #[e_ d_ T3.aa,a_ Z n3 c3,e_ d_ g,a_ Ab nb cb,a_ Ar nr cr],e_ d_ e3]) (by simp[results,Tryz.results73,go_sem,x0,x1,V,x3,x4,x5,x6,x7,x8,x9,ad,ak,av,a1,a2,ba,bb,bd,bf,bg]) rfl ?_;rw[HP.o,<-g3.o];refine⟨_,ha.o,?_⟩;simp only[I_ h7.o];exact cd.o
 subst he;have j4:=h5.o;have cm:=Z_ (ev.o.Jd ((g:Int)+1));obtain⟨X6,b2⟩:=N_ (((W5.setCell ⟨w,0,b_⟩ (e_ d_ T3.aa)).setCell ⟨w,1,b_⟩ (a_ Z n3 c3)).setCell ⟨w,2,b_⟩ (e_ d_ ((g:Int)+1)));have g6:=iz U.o ev.o.size (xz w ((W5.setCell ⟨w,0,b_⟩ (e_ d_ T3.aa)).setCell ⟨w,1,b_⟩ (a_ Z n3 c3)) (e_ d_ ((g:Int)+1)) 2) (λk hk=>.inl hk);have cE:=Z_ (hB.o.ae g6);have hD:=Z_ (HV.o.ae (S':=(·<w.heap.size)) (w':=X6) λb Y=>⟨Y,by rw[b2];exact cm.o.below.block b Y⟩);have eA:=Z_ (ud (a_ Av rows.length cv) rows w X6 hD.o (by rw[b2];exact cm.o.below.size) O_ (λl hl=>by have:=e5.o l hl;omega));rw[b2]at eA;rw[<-b2]at cE;have hF:=Z_ b2;clear b2 g5 g6 hD;go_wp2_with fail;refine eA.o.mono ?_;rintro e w7 ⟨u7,rfl,cp,eC⟩;obtain⟨A7,c7,I,-,-⟩:=(cp.sub (S':=(·<w7.heap.size)) λb Y=>Y.2).open_;subst I;have e4:=Z_ (cm.o.go eC);have h8:=Z_ ((e4.o.Cf (a_ A7 rows.length c7)).Ik (a_ b_ 0 0));have cd:x_ (fB w S (T3,0) ((g:Int)+1) rows [] (k_ (J_ #[JI #[e_ d_ T3.aa,a_ Z n3 c3,e_ d_ ((g:Int)+1),a_ A7 rows.length c7,a_ b_ 0 0],e_ d_ 0])) _):=Z_ (h8.o.fin (er:=0) (T:=T3) (base:=rows) (rest:=[]) U.o (by
  have cf:=eC;rw[<-hF.o]at cf cp;have h9:w.heap.size+2<=X6.heap.size:=by rw[hF.o];exact cm.o.size
  have j6:X6.heap.size<=w7.heap.size:=cf.size;have g7:=iz U.o h9 (Kept.ar (F:=λ_=>False) cf) (λk hk=>hk.elim);have g8:=iz U.o e4.o.size (sI w w7 (a_ A7 rows.length c7) (a_ b_ 0 0) 3 4) (λk hk=>.inl hk);exact⟨(cE.o.ae g7).ae g8,(cp.sub (S':=jo S w w7) λb Y=>.inr ⟨by have:=Y.1;omega,Y.2⟩).ae g8,al.nil _ _⟩))
 clear cp eC x0 x1 V x3 x4 x5 x6 x7 x8 x9 ad ak av a1 a2 ba bb bd bf bg t0 t1 t2 t3 eA;obtain⟨x0,x1,V,x3,x4,x5,x6,x7,x8,x9,ad,ak,av,a1,a2,ba,bb,bd,bf,bg⟩:=e4.o.cells;go_wp2;refine C_ (v:=J_ #[JI #[e_ d_ T3.aa,a_ Z n3 c3,e_ d_ ((g:Int)+1),a_ A7 rows.length c7,a_ b_ 0 0],e_ d_ 0]) (by simp[results,Tryz.results73,go_sem,x0,x1,V,x3,x4,x5,x6,x7,x8,x9,ad,ak,av,a1,a2,ba,bb,bd,bf,bg]) rfl ?_;rw[HP.o,<-g3.o];refine⟨_,ha.o,?_⟩;simp only[reduceIte];rw[show((g+1:Nat):Int)=(g:Int)+1 by omega];exact cd.o
open Go.RowKit Go.Lib Go.Vfs Go.Par
structure sj(w:j_)(pow:Int)(v:m_)(aa:Int)(u:m_)(ls:List (af×m_))(wr:j_):Prop where
 below:n_ w.heap.size w wr
 size:w.heap.size+3<=wr.heap.size
 h0:wr.heap[w.heap.size]?=c_ (f_ #[e_ d_ pow,v] 33 (0,0))
 h1:wr.heap[w.heap.size+1]?=c_ (f_ #[e_ d_ 0,a_ b_ 0 0] 33 (0,0))
 h2:wr.heap[w.heap.size+2]?=c_ (f_ #[e_ d_ aa,u] 33 (0,0))
 own:wr.ownsRow (w.heap.size+3) 109 3 u ls.length (ls.flatMap bQ)
 data:∀x∈ls,a8 (λb=>w.heap.size+3<=b/\b<wr.heap.size/\u.ownBlock≠c_ b) wr x.2 (l_ x.1.data)
theorem sj.form{ls:List (af×m_)}(h:sj w pow v aa u ls wr):∃A c,u=a_ A ls.length c:=by
 rcases h.own.2 with⟨rfl,h0⟩|⟨g,cap,cur,rfl,_⟩
 ·exact⟨b_,0,by rw[h0]⟩
 exact⟨_,cap,rfl⟩
theorem sj.go{ls:List (af×m_)}(h:sj w pow v aa u ls wr)(t:n_ wr wr X):sj w pow v aa u ls X:=by
 have U:=h.size;have D:=t.size;refine⟨h.below.trans (t.mono O_),by omega,(t.block _ O_).trans h.h0,(t.block _ O_).trans h.h1,(t.block _ O_).trans h.h2,World.ownsRow.kept (row:=.none) h.own ⟨t.os,t.tape,t.output,t.size,λk G _=>t.block k G⟩ (by cases u.ownBlock<;>simp),λx hx=>?_⟩;exact(h.data x hx).ae λb ⟨I,M,O⟩=>⟨⟨I,by omega,O⟩,t.block b M⟩
theorem sj.push{ls:List (af×m_)}(h:sj w pow v aa u ls X){f:af}
  (hu:a8 (λb=>w.heap.size+3<=b/\b<X.heap.size/\u.ownBlock≠c_ b) X u2 (l_ f.data)) {u':m_}
  (G:w5.ownsRow (w+3) 109 3 u' (ls.length+1) (ls.flatMap bQ++bQ (f,u2))) (I:X.grownBy w5 u.ownBlock) (M:u'.ownBlock=u.ownBlock\/u'.ownBlock=c_ X.heap.size):
  sj w pow v aa u' (ls++[(f,u2)]) (w5.setCell ⟨w+2,1,b_⟩ u'):=by
 have hz:=h.size;have ad:=I.size;have V:∀g,u.ownBlock=c_ g->w.heap.size+3<=g/\g<X.heap.size:=λg e=>Lm h.own g e
 have O:∀g,u'.ownBlock=c_ g->w.heap.size+3<=g/\g<w5.heap.size:=λg e=>Lm G g e
 have hs:∀k,k≠w.heap.size+2->(w5.setCell ⟨w+2,1,b_⟩ u').heap[k]?=w5.heap[k]?:=λk Y=>JZ _ _ _ _ Y
 have ak:(w5.setCell ⟨w+2,1,b_⟩ u').heap.size=w5.heap.size:=by simp[Kd]
 have t:∀k,k<w.heap.size+3->w5.heap[k]?=X.heap[k]?:=λk Y=>I.block k O_ (λe=>by have:=(V k e.symm).1;omega)
 have D:∀b,w.heap.size+3<=b/\b<X.heap.size/\u.ownBlock≠c_ b->(w.heap.size+3<=b/\b<(w5.setCell ⟨w+2,1,b_⟩ u').heap.size/\u'.ownBlock≠c_ b)/\(w5.setCell ⟨w+2,1,b_⟩ u').heap[b]?=X.heap[b]?:=λb ⟨b1,b2,Z⟩=>by
  refine⟨⟨b1,by omega,λe=>?_⟩,(hs b O_).trans (I.block b b2 (λe=>Z e.symm))⟩;rcases M with U|U
  ·exact Z (U.symm.trans e)
  rw[U]at e;cases e;omega
 refine⟨(h.below.grown I h.below.size (λg e=>by have:=(V g e).1;omega)).setCell (by simp) _,by omega,(hs _ O_).trans ((t _ O_).trans h.h0),(hs _ O_).trans ((t _ O_).trans h.h1),dP ((t _ O_).trans h.h2),?_,λx hx=>?_⟩
 ·have e:(ls++[(f,u2)]).flatMap bQ=ls.flatMap bQ++bQ (f,u2):=by simp
  rw[e,p_];exact aO G (λg I=>hs g (by have:=(O g I).1;omega))
 rcases KI.1 hx with hx|hx
 ·exact(h.data x hx).ae D
 simp at hx;subst hx;exact hu.ae D
theorem sj.cells{ls:List (af×m_)}(h:sj w pow v aa u ls wr):
  (wr.cell? ⟨w,0,b_⟩=c_ (e_ d_ pow)/\wr.cell? ⟨w,1,b_⟩=c_ v)/\(wr.frozen? ⟨w+1,0,b_⟩=o_/\wr.frozen? ⟨w+1,1,b_⟩=o_/\wr.cell? ⟨w+1,0,b_⟩=c_ (e_ d_ 0)/\wr.cell? ⟨w+1,1,b_⟩=c_ (a_ b_ 0 0))/\
  (wr.cell? ⟨w+1+1,0,b_⟩=c_ (e_ d_ aa)/\wr.cell? ⟨w+1+1,1,b_⟩=c_ u/\wr.frozen? ⟨w+1+1,0,b_⟩=o_/\wr.frozen? ⟨w+1+1,1,b_⟩=o_):=by
 have h0:=h.h0;have h1:=h.h1;have h2:wr.heap[w.heap.size+1+1]?=c_ (f_ #[e_ d_ aa,u] 33 (0,0)):=h.h2;simp[E_,JW,h0,h1,h2]
theorem sj.Fe{ls:List (af×m_)}(h:sj w pow v aa u ls X)(t:X.grownBy w5 u.ownBlock):
  w5.cell? ⟨w+1+1,0,b_⟩=c_ (e_ d_ aa)/\w5.cell? ⟨w+1+1,1,b_⟩=c_ u/\w5.frozen? ⟨w+1+1,0,b_⟩=o_/\w5.frozen? ⟨w+1+1,1,b_⟩=false:=by
 have D:=h.size;have h2:w5.heap[w.heap.size+1+1]?=c_ (f_ #[e_ d_ aa,u] 33 (0,0)):=(t.block _ O_ (λe=>by have:=(Lm h.own _ e.symm).1;omega)).trans h.h2;simp[E_,JW,h2]
theorem sj.start(w:j_)(pow:Int)(v:m_)(aa:Int):sj w pow v aa (a_ b_ 0 0) [] (((w.alloc (f_ #[e_ d_ pow,v] 33)).alloc (f_ #[e_ d_ 0,a_ b_ 0 0] 33)).alloc (f_ #[e_ d_ aa,a_ b_ 0 0] 33)):=by
 have h1:=r_ (w.alloc (f_ #[e_ d_ pow,v] 33)) (f_ #[e_ d_ 0,a_ b_ 0 0] 33);have h2:=r_ ((w.alloc (f_ #[e_ d_ pow,v] 33)).alloc (f_ #[e_ d_ 0,a_ b_ 0 0] 33)) (f_ #[e_ d_ aa,a_ b_ 0 0] 33);simp only[JQ]at h1 h2;refine⟨(fU w _ _).alloc (by simp;omega) _,by simp,?_,?_,h2,Mf _ _ _ _,λx hx=>by cases hx⟩
 ·rw[z_ _ _ _ (by simp;omega),z_ _ _ _ (by simp)]
  exact r_ w _
 rw[z_ _ _ _ (by simp)];exact h1
theorem sj.fin{ls:List (af×m_)}{w':j_}(h:sj w pow v aa u ls wr)(I:Kept (λb=>b=w.heap.size+1) wr w')(S:Nat->Prop):
  aA (fO S w w') w' u (ls.map (·.1))/\n_ w w w':=by
 have hz:=h.size;have V:=I.size;have Y:∀g,u.ownBlock=c_ g->w.heap.size+3<=g/\g<wr.heap.size:=λg e=>Lm h.own g e
 refine⟨?_,h.below.trans (I.below O_ (λk hk=>by omega))⟩;have hr:aA (λb=>w.heap.size+3<=b/\b<wr.heap.size) wr u (ls.map (·.1)):=by
  rcases h.own.2 with⟨rfl,h0⟩|⟨g,cap,cur,rfl,hg,hh,M,O,Z,U⟩
  ·have:ls=[]:=JH h0
   subst this;exact aA.nil _ _
  refine⟨c_ ⟨g,0,b_⟩,cap,by simp,by simpa using M,by simpa[maxLen]using O,λi hi=>?_⟩;have t:i<ls.length:=by simpa using hi
  have hc:∀j,j<3->wr.cell? ⟨g,0+i*3+j,b_⟩=(bQ ls[i])[j]?:=λj hj=>by
   have hl:=qU ls;have D:i*3+j<(ls.flatMap bQ).length:=by omega
   have:=LB (g:=g) h.own rfl (i*3+j) _ (w_ D);rw[cS]at this;rw[<-mq ls i j t hj,w_ D,<-this]
   congr 2
   omega
  refine⟨g,0,rfl,Y g rfl,ls[i].2,?_,?_,?_,?_⟩
  ·have:=hc 0 O_;simp[bQ]at this⊢;exact this
  ·have:=hc 1 O_;simp[bQ]at this⊢;exact this
  ·have:=hc 2 O_;simp[bQ]at this⊢;exact this
  have:=(h.data ls[i] (JB t)).ae (S':=λb=>w.heap.size+3<=b/\b<wr.heap.size) (w':=wr) λb G=>⟨⟨G.1,G.2.1⟩,rfl⟩
  simpa using this
 exact hr.ae λb G=>⟨.inr ⟨by omega,by omega⟩,I.block b G.2 O_⟩
theorem sj.copied{ls:List (af×m_)}(h:sj w pow v aa u ls wr){o:Obj}(M:n_ (wr.alloc o).heap.size (wr.alloc o) w2){d:List UInt8}
  (hu:Par.Own w2 (wr.alloc o).heap.size 5 u2 (l_ d)) {X:j_} (D:Kept (λb=>b=wr.heap.size) w2 X):
  sj w pow v aa u ls X/\a8 (λb=>w.heap.size+3<=b/\b<X.heap.size/\u.ownBlock≠c_ b) X u2 (l_ d):=by
 have V:=h.size;have G:=M.size;simp only[JQ]at G;have O:=D.size;have I:n_ wr wr X:=((ah wr o).trans (M.mono (by simp))).trans (D.below O_ (λk U=>by omega));refine⟨h.go I,(Own.jf hu (F:=λb=>b<=wr.heap.size) (λk U=>by simp;omega)).ae λb t=>?_⟩;have h1:wr<b:=by have:=t.2;omega
 refine⟨⟨by omega,by have:=t.1;omega,λe=>?_⟩,D.block b t.1 O_⟩;have:=(Lm h.own b e).2;omega
def G8(k:Int)(f:af):Nat:=min k.toNat (f.data.length - f.safe)
theorem yN(pow:Int)(v:m_)(fs:List af)(S:Nat->Prop)(w:j_)(hS:∀b,S b->b<w.heap.size)(h:aA S w v fs)(hl:fs.length<=900000)(hd:∀f∈fs,f.data.length<=1000000/\f.safe<=f.data.length)
  (kv:m_) (keeps:List Int) (hk:bw w w kv (ints keeps)) (aa:Int):
  H_ h_ 36 #[JI #[e_ d_ pow,v],kv,e_ d_ aa] w λe w'=>∃v',e=k_ (JI #[e_ d_ aa,v'])/\aA (fO S w w') w' v' (cN keeps 0 fs)/\n_ w w w':=by
 obtain⟨A,c,rfl,hc,hm⟩:=h.form;obtain⟨Ak,ck,rfl,eo,ev,a1⟩:=hk.open_ints;have H:=Z_ h;clear h;have HS:=Z_ hS;clear hS;have HD:=Z_ hd;clear hd;have cg:=Z_ a1;clear a1 hk;have R0:=Z_ (sj.start w pow (a_ A fs.length c) aa);go_enter Tryz.func36,Tryz.ntmps36;go_wp2
 go_loopw [8] (λi wr=>∃(k:Nat) (u:m_) (ls:List (af×m_)),k<=fs.length/\i=e_ d_ k/\x_ (sj w pow (a_ A fs.length c) aa u ls wr)/\x_ (ls.map (·.1)=cN keeps 0 (fs.take k))/\ls.length=k) (λi _=>fs.length - (intOf i).toNat)
 case atStart=>exact⟨0,_,[],by omega,rfl,R0,Z_ rfl,rfl⟩
 obtain⟨k,u,ls,hk,rfl,HR,HE,bb⟩:=hrel;obtain⟨Ax,cx,O⟩:=HR.o.form;rw[bb]at O;have bd:=Z_ bb;clear bb;subst O;obtain⟨⟨x0,x1⟩,⟨y0,y1,y2,y3⟩,z0,z1,z2,z3⟩:=HR.o.cells;by_cases bf:k<fs.length
 ·obtain⟨b,off,Au,nu,cu,rfl,hb,g0,g1,g2,g3⟩:=H.o.there HS.o HR.o.below k bf
  obtain rfl:=AK g3;have bp:bw wr wr (a_ Au fs[k].data.length cu) (l_ fs[k].data):=g3.dH λb hb=>by have:=HS.o b hb;have:=HR.o.size;omega
  obtain⟨ch,cl⟩:=HD.o fs[k] (JB bf);have bt:=y_ bf;have cm:=Z_ bt;have bg:=Z_ bp;clear g3 bt bp;generalize fs[k]=f at*;obtain⟨I,data,safe⟩:=f;simp only at g0 g1 g2 ch cl bg;have eA:=HR.o.size;have c9:w.heap.size+2<wr.heap.size:=by omega
  have df:¬w.heap.size+2=wr.heap.size:=by omega
  have dv:¬wr.heap.size=w.heap.size+2:=by omega
  have eb:w.heap.size<wr.heap.size:=by omega
  have ec:b<wr:=by omega
  obtain⟨M,hM⟩:=N_ (G8 (kl keeps k) ⟨I,data,safe⟩);have cp:safe+M<=data.length:=by rw[hM];unfold G8;simp only;omega
  have HM:=Z_ hM;have HN:x_ (mi (kl keeps k) ⟨I,data,safe⟩=safe+M):=Z_ (by rw[hM];rfl);clear hM
  go_upto_if 27 with fail
  go_cut [10]from 13 to 69 (λkk wx=>kk=e_ d_ (kl keeps k)/\wx=wr.alloc (f_ #[g_ ⟨I.toArray⟩,a_ Au data.length cu,e_ d_ safe] 109))
  case first=>
   by_cases ak:keeps.length=0
   ·have cr:decide (0<keeps.length)=false:=JJ O_
    have U:x_ (kl keeps k=0):=Z_ (by unfold kl;rw[G_ ak]);have eC:¬0<keeps.length:=by omega
    clear ak;go_wp2;go_meet;exact⟨by rw[U.o],rfl⟩
   have bx:0<keeps.length:=by omega
   have cr:decide (0<keeps.length)=true:=JR bx;obtain⟨j,hj⟩:=N_ (k%keeps.length);have ct:j<keeps.length:=by rw[hj];exact Nat.mod_lt _ bx
   obtain⟨bk,ok,xk,rfl,cv,bB,cB⟩:=cg.o.int ct;have ee:wr.cell? ⟨bk,ok+j,b_⟩=c_ (e_ d_ xk):=(HR.o.below.cell (p:=⟨bk,ok+j,b_⟩) cv).trans bB;have q0:((k:Int)).tmod (keeps.length:Int)=(j:Int):=by rw[hj];rfl
   have q1:(k:Int)%(keeps.length:Int)=(j:Int):=by rw[hj];rfl
   have e0:bk<wr:=by omega
   have U:x_ (kl keeps k=xk):=Z_ (by unfold kl;rw[I_ ak,<-hj];exact cB.o);clear hj bB ak;go_wp2;go_meet;exact⟨by rw[U.o],rfl⟩
  obtain⟨rfl,rfl⟩:=hcut;generalize bN:kl keeps k=K0 at*;have cE:=Z_ bN;clear bN
  go_upto_if 36 with fail
  go_cut [10]from 13 to 69 (λkk wx=>kk=e_ d_ (K0.toNat:Nat)/\wx=wr.alloc (f_ #[g_ ⟨I.toArray⟩,a_ Au data.length cu,e_ d_ safe] 109))
  case first=>
   by_cases eg:K0<0
   ·have U:x_ (K0.toNat=0):=Z_ O_
    go_wp2;go_meet;exact⟨by rw[U.o];rfl,rfl⟩
   have U:x_ ((K0.toNat:Int)=K0):=Z_ O_;go_wp2;go_meet;exact⟨by rw[U.o],rfl⟩
  obtain⟨rfl,rfl⟩:=hcut;have bO:M=min K0.toNat (data.length - safe):=HM.o;generalize K0.toNat=K1 at*;have bR:=Z_ bO;clear bO HM
  go_upto_if 44 with fail
  go_cut [10]from 13 to 69 (λkk wx=>kk=e_ d_ (M:Nat)/\wx=wr.alloc (f_ #[g_ ⟨I.toArray⟩,a_ Au data.length cu,e_ d_ safe] 109))
  case first=>
   by_cases en:(data.length:Int) - (safe:Int)<(K1:Int)
   ·have U:x_ ((M:Int)=(data.length:Int) - (safe:Int)):=Z_ (by have:=bR.o;omega)
    go_wp2;go_meet;exact⟨by rw[U.o],rfl⟩
   have U:x_ (M=K1):=Z_ (by have:=bR.o;omega);go_wp2;go_meet;exact⟨by rw[U.o],rfl⟩
  obtain⟨rfl,rfl⟩:=hcut;obtain⟨cF,a2⟩:=tz bg.o (safe+M) cp;have e1:∀w',(Instr.slice 24 (a_ Au data.length cu) b_ (c_ (e_ d_ ((safe:Int)+(M:Int)))) b_).run h_ w'=.ok (a_ Au (safe+M) cu) w':=λw'=>by
   have:=gJ Au data.length cu (safe+M) w' cF;rwa[show((safe+M:Nat):Int)=(safe:Int)+(M:Int) by omega]at this
  have b0:(l_ (data.take (safe+M))).length=safe+M:=by rw[t_];simp;omega
  have c6:=Z_ b0;have b1:=a2.below (ah wr (f_ #[g_ ⟨I.toArray⟩,a_ Au data.length cu,e_ d_ safe] 109));have b2:=Z_ b1;clear a2 b0 b1;go_wp2_with fail;refine(cY _ (data.take (safe+M)) _ _ b2.o (by simp) (by simp;omega)).mono ?_;rintro e w2 ⟨u2,rfl,bj,V⟩;obtain⟨A2,c2,b3⟩:=bj.form;rw[c6.o]at b3;generalize b5:safe+M=D at*;have c7:=Z_ b5;clear b5;subst b3;have b6:w2.heap[wr.heap.size]?=c_ (f_ #[g_ ⟨I.toArray⟩,a_ Au data.length cu,e_ d_ safe] 109 (0,0)):=(V.block _ (by simp)).trans (r_ wr _);obtain⟨q0,q1,q2,q3,q4,q5⟩:=gL b6;have r2:=HR.o.go ((ah wr (f_ #[g_ ⟨I.toArray⟩,a_ Au data.length cu,e_ d_ safe] 109)).trans (V.mono (by simp)));clear x0 x1 y0 y1 y2 y3 z0 z1 z2 z3;obtain⟨⟨x0,x1⟩,⟨y0,y1,y2,y3⟩,z0,z1,z2,z3⟩:=r2.cells;obtain⟨X2,av⟩:=N_ ((w2.setCell ⟨wr,1,b_⟩ (a_ A2 D c2)).setCell ⟨wr,2,b_⟩ (e_ d_ (D:Nat)));have cb:Kept (λb=>b=wr.heap.size) w2 X2:=by rw[av];exact((Kept.refl (λb=>b=wr.heap.size) w2).setCell (p:=⟨wr,1,b_⟩) (.inl rfl) _).setCell (p:=⟨wr,2,b_⟩) (.inl rfl) _
  have cc:X2.heap.size=w2.heap.size:=by rw[av];simp[Kd]
  obtain⟨rX,sX⟩:=HR.o.copied V bj cb;have r3:=rX.go (ah X2 (f_ #[g_ ⟨I.toArray⟩,a_ A2 D c2,e_ d_ D] 109));have s3:=sX.ae (S':=λb=>w.heap.size+3<=b/\b<(X2.alloc (f_ #[g_ ⟨I.toArray⟩,a_ A2 D c2,e_ d_ D] 109)).heap.size/\(a_ Ax k cx).ownBlock≠c_ b) (w':=X2.alloc (f_ #[g_ ⟨I.toArray⟩,a_ A2 D c2,e_ d_ D] 109)) λb hb=>⟨⟨hb.1,by simp;omega,hb.2.2⟩,(ah X2 _).block b hb.2.1⟩
  have Y:=r3.own;have t:=gh X2 ⟨I,data.take D,D⟩ (a_ A2 D c2) 109;rw[cc]at t;have R3:=Z_ r3;have S3:=Z_ s3;have e2:wr.heap.size<w2.heap.size:=by have:=V.size;simp at this;omega
  clear r2 rX sX r3 s3 bj V cb cc b6 bg b2;rw[av]at Y t R3 S3;clear av;go_wp2_with (at_builtin;refine eI _ rfl _ _ _ rfl (w+3) 109 3 48 qV _ _ _ rfl Y w2 _ rfl ?c0 t (fo _ _ _ _) ?c1 ?c2 ?c3 ?_)
  case c0=>rfl
  case c1=>rw[bd.o];omega
  case c2=>rw[bd.o];omega
  case c3=>simp;omega
  intro v3 w3 Z bn ba;obtain⟨o0,o1,o2,o3⟩:=R3.o.Fe bn;have ad:=ba;rw[show w2.heap.size+1=(((w2.setCell ⟨wr,1,b_⟩ (a_ A2 D c2)).setCell ⟨wr,2,b_⟩ (e_ d_ (D:Nat))).alloc (f_ #[g_ ⟨I.toArray⟩,a_ A2 D c2,e_ d_ D] 109)).heap.size by simp[Kd]]at ad;have RP:=Z_ (R3.o.push S3.o Z bn ad);obtain⟨A3,c3,G⟩:=RP.o.form;have c8:v3=a_ A3 (ls.length+1) c3:=by rw[G];simp
  clear G ad;subst c8;clear Z bn ba Y t x0 x1 y0 y1 y2 y3 z0 z1 z2 z3 q0 q1 q2 q3 q4 q5 R3 S3;go_wp2;go_roundw
  case rel=>
   refine⟨k+1,_,_,by omega,by go_num,RP,Z_ ?_,by rw[p_,bd.o];rfl⟩;rw[cm.o,kD,Lb,HE.o];simp only[Lp,JN,K2 hk];unfold eZ;simp only[cE.o,HN.o,c7.o];rfl
  simp[intOf];omega
 have cd:k=fs.length:=by omega
 have cf:=Z_ cd;clear cd;go_wp2;refine C_ (v:=JI #[e_ d_ aa,a_ Ax k cx]) (by simp[results,Tryz.results36,go_sem,y0,y1,y2,y3,z0,z1,z2,z3]) rfl ⟨_,rfl,?_⟩;have:=HR.o.fin (((Kept.refl (λb=>b=w.heap.size+1) wr).setCell (p:=⟨w+1,0,b_⟩) (.inl rfl) (e_ d_ aa)).setCell (p:=⟨w+1,1,b_⟩) (.inl rfl) (a_ Ax k cx)) S;rw[HE.o,cf.o,JO]at this;rw[cf.o];exact this
open Go.RowKit Go.Lib Go.Vfs Go.Par Go.Typ Go.Shelf Go.Ix
theorem Ea(T:Ty):bG T=v_->pY 255 T:=by
 induction T using Ty.ind with
 |_ T G=>
  intro h;obtain⟨k,n,s,ts⟩:=T;exact pY.mk (gI h) λt D=>by
   obtain⟨i,hi,rfl⟩:=J4 D;exact G i hi (fq h D)
theorem GC{E:En}(h:gF E=v_):∀x∈E.aI,qj x:=λx hx=>by
 obtain⟨h1,h2,t⟩:=fp (ia h) x hx;have G:x.ty.parts<=300:=by unfold cJ at h2;simp at h2;exact h2.1
 exact⟨by omega,λy D=>by have:=Ea _ t y D;omega,by omega⟩
theorem rH(st:St)(hp:st.aa<=9223372036854775807)(S:Nat->Prop)(w:j_)(hS:∀b,S b->b<w.heap.size)(g:Nat)(hg:g+1<4294967296)(base rest:List (List UInt8))(es:List En)(A Ab Ar Al:Option Kb)(n c nb cb nr cr cl:Nat)(h:mE S w st.files base rest es (a_ A n c) (a_ Ab nb cb) (a_ Ar nr cr) (a_ Al es.length cl))(hc:Calm st.files kf d)(b2:kf<=1000)(hd:d<=600000)
  (b3:∀e∈es,gF e=v_) (b5:∀e∈es,(aN e).length<=65536) (eo:es.length<=10000) (hE:(bE (g+1) (cy (es.map aN).length::es.map aN)).length<=300000):
  H_ h_ 35 #[JI #[e_ d_ st.aa,a_ A n c,e_ d_ g,a_ Ab nb cb,a_ Ar nr cr,a_ Al es.length cl]] w λe w'=>∃r,ax (bE (g+1) (cy (es.map aN).length::es.map aN)) (a7 (bV st.files aK)) st=r/\
   fk w S r ((if r.2=0 then g+1 else g:Nat):Int) (if r.2=0 then es.map aN else base) (if r.2=0 then []else rest) es e w':=by
 obtain⟨P,hP⟩:∃P:KS->j_->Prop,P=λe w'=>∃r,ax (bE (g+1) (cy (es.map aN).length::es.map aN)) (a7 (bV st.files aK)) st=r/\
   fk w S r ((if r.2=0 then g+1 else g:Nat):Int) (if r.2=0 then es.map aN else base) (if r.2=0 then []else rest) es e w':=⟨_,rfl⟩
 rw[<-hP];obtain⟨I,b6,h0,Z⟩:=B6.two w st.aa g (a_ A n c) (a_ Ab nb cb) (a_ Ar nr cr) (a_ Al es.length cl);have cc:mE (TB S w 2 I) I st.files base rest es (a_ A n c) (a_ Ab nb cb) (a_ Ar nr cr) (a_ Al es.length cl):=h.ae λb D=>⟨.inl D,h0.below.block b (hS b D)⟩
 have HP:=Z_ hP;have U:=Z_ h0;have ad:=Z_ cc;have HS:=Z_ hS;have c7:=Z_ b3;have cd:=Z_ b5;have bp:x_ (∀W Av cv,n_ I I W->al (·<W.heap.size) W (a_ Av (es.map aN).length cv) (es.map aN)->H_ h_ 73 #[JI #[e_ d_ st.aa,a_ A n c,e_ d_ (g:Nat),a_ Ab nb cb,a_ Ar nr cr],a_ Av (es.map aN).length cv] W λe w'=>∃r,ax (bE (g+1) (cy (es.map aN).length::es.map aN)) (a7 (bV st.files aK)) st=r/\fB W (TB S w 2 I) r ((if r.2=0 then g+1 else g:Nat):Int) (if r.2=0 then es.map aN else base) (if r.2=0 then []else rest) e w'):=Z_ λW Av cv hW hv=>
  BW st hp _ W (λb D=>by have:=TB.lt HS.o U.o.size D;have:=hW.size;omega) g hg base rest A Ab Ar n c nb cb nr cr (ad.o.j.ae λb D=>⟨D,hW.block b (TB.lt HS.o U.o.size D)⟩) hc b2 hd Av cv _ hv (λl hl=>by obtain⟨e,he,rfl⟩:=Lr.1 hl;exact cd.o e he) (by simp;omega) hE
 have HT:x_ (az 24 1 g9 I I (I.alloc (f_ #[] 24)) ((es.take 0).map aN) (a_ (c_ ⟨w+1+1,0,b_⟩) 0 0) []/\(∀u∈([]:List m_),∃A n c,u=a_ A n c)/\n_ I I (I.alloc (f_ #[] 24))):=Z_ ⟨by rw[show w.heap.size+1+1=I.heap.size from Z.symm];exact az.made I L_,by simp,ah _ _⟩;clear hP cc h hS hE b5 b3 hc b2 hd h0;go_enter Tryz.func35,Tryz.ntmps35;clear Z;go_wp2;rw[<-b6];clear b6
 go_loopw [4,5] (λrv iv W'=>∃(k:Nat) (us:List m_),k<=es.length/\iv=e_ d_ k/\x_ (az 24 1 g9 I I W' ((es.take k).map aN) rv us/\(∀u∈us,∃A n c,u=a_ A n c)/\n_ I I W')) (λ_ iv _=>es.length - (A_ iv).toNat)
 case atStart=>exact⟨0,[],by omega,rfl,HT⟩
 clear HT;obtain⟨k,us,hk,rfl,HI⟩:=hrel;obtain⟨G,M,t⟩:=HI.o;have Z:=t.size;obtain⟨ak,av,cf,-,-⟩:=G.form;have bO:((es.take k).map aN).length=k:=by simp;omega
 rw[bO]at cf;subst cf;obtain⟨-,-,-,-,-,x5⟩:=(U.o.go t).cK;have ev:=Z_ t;by_cases ba:k<es.length
 ·obtain⟨b,off,A',c',rfl,D,cg,ht,y0,y1,y2⟩:=(ad.o.l.ae (S':=TB S w 2 I) (W':=wr) λb D=>⟨D,t.block b (TB.lt HS.o U.o.size D)⟩).arg ba
  have O:=c7.o _ (JB ba);have bt:=kS es[k] (GC O) (eV es[k] A' c') wr ⟨A',c',rfl,cg,ht.ae λb D=>⟨by have:=TB.lt HS.o U.o.size D;omega,rfl⟩⟩;have c8:x_ ((es.take (k+1)).map aN=(es.take k).map aN++[aN es[k]]):=Z_ (by rw[y_ ba,Lb];rfl);have en:=Z_ (cd.o _ (JB ba));have bR:x_ (H_ h_ 39 #[eV es[k] A' c'] wr λe w2=>∃A2 c2,e=k_ (J_ #[a_ A2 (aN es[k]).length c2,e_ d_ 0])/\x_ (Par.Own w2 wr 5 (a_ A2 (aN es[k]).length c2) (l_ (aN es[k])))/\x_ (n_ wr wr w2)):=Z_ (by
   refine bt.mono ?_;rintro e w2 ⟨v2,rfl,V,bb,-⟩;have bb:=bb O;obtain⟨A2,c2,ch⟩:=bb.form;rw[t_]at ch;subst ch;rw[O];exact⟨A2,c2,rfl,Z_ bb,Z_ V⟩)
  unfold eV at bR;generalize es[k]=E at*;clear bt O ht cg G M t bO;go_wp2_with fail;refine bR.o.mono ?_;rintro e w2 ⟨A2,c2,rfl,c9,b0⟩;have eA:=b0.o.size;obtain⟨G,M,t⟩:=HI.o;have bx:Par.Own (w2.alloc (f_ #[a_ A2 (aN E).length c2] 24)) I 24 (a_ ak k av) us:=by
   have h1:=(az.below (R:=g9) g9.ae G b0.o).own;rw[kH M,<-G.len]at h1;exact Par.Own.alloc (show Par.Own w2 I 24 (a_ ak k av) us from h1) _
  have bB:=bw.new w2 24 #[a_ A2 (aN E).length c2] [a_ A2 (aN E).length c2] rfl (by simp[maxLen]);have df:x_ (us.length+[a_ A2 (aN E).length c2].length<=2147483648):=Z_ (by rw[G.len];simp;omega);have dv:x_ (I.heap.size<=(w2.alloc (f_ #[a_ A2 (aN E).length c2] 24)).heap.size):=Z_ (by simp;omega);clear y0 y1 y2 x5 G M t bR;go_wp2_with (at_builtin;refine aE _ rfl _ _ _ rfl I 24 _ j8 _ _ rfl bx _ _ _ rfl bB (λy hy=>by simp at hy;subst hy;rfl) df.o dv.o ?_);intro v3 w3 Y ck bN;obtain⟨G,M,t⟩:=HI.o;have HN:=tv G M Z b0.o c9.o Y ck (by simpa using bN);rw[<-c8.o]at HN;have eb:=Z_ (⟨HN.1,HN.2.1,t.trans HN.2.2⟩:_/\_/\_);clear Y ck bN bx bB G M t HN;go_wp2;go_roundw
  case rel=>exact⟨k+1,us++[a_ A2 (aN E).length c2],by omega,by go_num,eb⟩
  simp[A_];omega
 have ec:k=es.length:=by omega
 subst ec;rw[JO]at G;have cm:x_ (al (·<wr.heap.size) wr (a_ ak (es.map aN).length av) (es.map aN)):=Z_ (by
  rw[KL];obtain⟨vs,h1,h2,h3⟩:=az.AG G λu hu=>by obtain⟨A,n,c,rfl⟩:=M u hu;rfl
  exact⟨vs,h1,h2.ae λb D=>⟨D.2,rfl⟩,λi hi=>(h3 i hi).ae λb D=>⟨D.2,rfl⟩⟩)
 obtain⟨x0,x1,x2,x3,x4,-⟩:=(U.o.go t).cK;have b1:=Z_ (bp.o wr ak av t cm.o);have H1:=Z_ (U.o.go t);have cp:x_ (mE (TB S w 2 I) wr st.files base rest es (a_ A n c) (a_ Ab nb cb) (a_ Ar nr cr) (a_ Al es.length cl)):=Z_ (ad.o.ae λb D=>⟨D,t.block b (TB.lt HS.o U.o.size D)⟩);have ct:(es.map aN).length=es.length:=by simp
 rw[ct]at b1;clear G M t bO bp cm HI ct;go_wp2_with fail;refine b1.o.mono ?_;rintro e w1 ⟨r,hr,A1,n1,c1,bd,bf,bg,bj,bk,bn,rfl,cu,t⟩;have h1:=H1.o.go t;have V:=ah w1 (f_ #[e_ d_ r.1.aa,a_ A1 n1 c1,e_ d_ ((if r.2=0 then g+1 else g:Nat):Int),a_ bd bf bg,a_ bj bk bn] 44);have h2:=h1.go V;obtain⟨Wf,cx,h3,cB⟩:=h2.sI r.1.aa ((if r.2=0 then g+1 else g:Nat):Int) (a_ A1 n1 c1) (a_ bd bf bg) (a_ bj bk bn);obtain⟨Wg,ee,⟨f0,f1,f2,f3,f4,f5⟩,cE⟩:=h3.ret;have cF:mE (TB S w 2 Wf) Wf r.1.files (if r.2=0 then es.map aN else base) (if r.2=0 then []else rest) es (a_ A1 n1 c1) (a_ bd bf bg) (a_ bj bk bn) (a_ Al es.length cl):=by
  have key:∀b,TB S w 2 w1 b->TB S w 2 Wf b/\Wf.heap[b]?=w1.heap[b]?:=λb D=>by
   obtain⟨a1,a2⟩:=TB.go HS.o h1.size V b D;obtain⟨a3,a4⟩:=TB.kept HS.o h2.size cB (λk hk=>by have:=h2.l0;omega) b a1;exact⟨a3,a4.trans a2⟩
  have up:∀b,TB S w 2 I b->TB S w 2 w1 b:=λb D=>D.imp id λh=>⟨h.1,by have:=t.size;omega⟩
  refine⟨cu.ae λb D=>key b ?_,cp.o.l.ae λb D=>?_⟩
  ·rcases D with D|D
   ·exact up b D
   exact .inr ⟨by have:=U.o.size;omega,D.2⟩
  obtain⟨a3,a4⟩:=key b (up b D);exact⟨a3,a4.trans (t.block b (by have:=TB.lt HS.o U.o.size D;omega))⟩
 have HE:=Z_ (B6.fin (er:=r.2) h3 HS.o cF cE);have HR:=Z_ hr;obtain⟨x0,x1,x2,x3,x4,x5⟩:=h2.cK;obtain⟨p0,p1,p2,p3,p4,p5⟩:=h2.iZ;obtain⟨z0,z1,z2,z3,z4,z5⟩:=h3.cK;obtain⟨⟨s0,s1,s2,s3,s4,s5⟩,q0,q1,q2,q3,q4,q5⟩:=h3.gP;generalize c6:((if r.2=0 then g+1 else g:Nat):Int)=gn at*;have eg:=Z_ c6;rw[cx]at z0 z1 z2 z3 z4 z5 s0 s1 s2 s3 s4 s5 q0 q1 q2 q3 q4 q5;clear cB cE h1 h2 h3 cF cu t V b1 U ad H1 cp hr c6;go_wp2;rw[<-cx,<-ee];refine C_ (v:=J_ #[JI #[e_ d_ r.1.aa,a_ A1 n1 c1,e_ d_ gn,a_ bd bf bg,a_ bj bk bn,a_ Al es.length cl],e_ d_ r.2]) (by simp[results,Tryz.results35,go_sem,f0,f1,f2,f3,f4,f5]) rfl ?_;rw[HP.o];exact⟨r,by rw[KL];exact HR.o,by rw[eg.o];exact HE.o⟩
theorem lq(st:St)(fs:List af):cT st fs=(st,13)\/cT st fs=(⟨dec st.aa,fs⟩,0):=by
 unfold cT;split
 ·exact .inl rfl
 exact .inr rfl
section
variable{P:List UInt8->Prop}{K n d:Nat}{st:St}{g:Nat}{base rest rows:List (List UInt8)}{es:List En}
theorem V3.fw{fs:List af}{nx bs lg:Option af}(h:V3 fs nx bs lg)(t:CM P K bs)(D:EF P K lg){pw:Int}(hc:Calm fs n d):FW P K n d ⟨pw,fs⟩:=⟨by rw[h.bs];exact t,by rw[h.lg];exact D,hc⟩
theorem LI.lay(h:LI P K n d st g base rest es)(hK:K<=1000)(hP:∀l,P l->l.length<=65536)(hr:∀l∈rows,P l)(hl:rows.length<=50000)(I:replay [] rows=c_ es){r:St×Int}(he:ax (bE (g+1) (cy rows.length::rows)) (a7 (bV st.files aK)) st=r)(hd:(bE (g+1) (cy rows.length::rows)).length<=d):
  (r.2=0/\LI P (K+1) (n+4) d r.1 (g+1) rows [] es)\/(r.2=13/\FW P (K+1) (n+4) d r.1):=by
 obtain⟨bs,lg,s,V,D,ad⟩:=h.v3;have av:=h.gk;have hE:=yb (g:=g+1) O_ (λp hp=>hP p (hr p hp)) O_;obtain⟨E,ak⟩:=N_ (bE (g+1) (cy rows.length::rows));rw[<-ak]at hE he hd;have G:CM P (K+1) (c_ ⟨dj,E,E.length⟩):=λf hf=>by
  injection hf with hf;subst hf;exact⟨rfl,λx hx=>by rw[hE]at hx;injection hx with hx;subst hx;exact⟨by simp only;omega,hl,hr⟩⟩
 have D:=D.mono (Nat.le_succ K);have Z:EF P (K+1) lg:=ad.t O_ (by have:=h.rl;omega) (λl hl=>h.yP l (Le _ hl));obtain⟨pw,fs⟩:=st;have a1:pw<=9223372036854775807:=h.pw;rw[show bV fs aK=lg.isSome from V.Gn]at he;have c0:Calm (eJ a6 E fs) (n+1) d:=by
  have:=V.nx;unfold eJ;rw[this];exact h.calm.aq (f:=⟨a6,E,0⟩) (show bS a6=v_ by decide) hd (Km _)
 have cs:∀(i:Nat) (pw:Int) (f:List af) (m:Nat) (f':List af),Calm f m d->aD E (i+1) ⟨pw,f⟩=(⟨dec pw,f'⟩,0)->Calm f' (m+1) d:=λi pw f m f' hc hs=>by
  have h1:=lI (b:=[]) (st:=⟨pw,f⟩) hc (i+1);rw[show aD [] (i+1) ⟨pw,f⟩=aD E (i+1) ⟨pw,f⟩ by cases i with|zero=>rfl|succ i=>cases i<;>rfl,hs]at h1;simpa using h1
 have M:aD E 0 ⟨pw,fs⟩=cT ⟨pw,fs⟩ (eJ a6 E fs):=V.Im (pw:=pw) E;have v0:=V.IN E;rw[show tT a6 b_ E=⟨a6,E,0⟩from rfl]at v0;rcases lq ⟨pw,fs⟩ (eJ a6 E fs)with d0|d0
 ·rw[d0]at M
  have:ax E (a7 lg.isSome) ⟨pw,fs⟩=(⟨pw,fs⟩,13):=by cases lg<;>simp[a7,ax,M]
  rw[this]at he;subst he;exact .inr ⟨rfl,V.fw D Z (h.calm.mono O_ L_)⟩
 rw[d0]at M;obtain⟨f1,O,v1⟩:=v0.Io (pw:=dec pw) rfl E;rcases lq ⟨dec pw,eJ a6 E fs⟩ f1 with d1|d1
 ·rw[d1]at O
  have:ax E (a7 lg.isSome) ⟨pw,fs⟩=(⟨dec pw,eJ a6 E fs⟩,13):=by cases lg<;>simp[a7,ax,M,O]
  rw[this]at he;subst he;exact .inr ⟨rfl,v0.fw D Z (c0.mono O_ L_)⟩
 rw[d1]at O;have c1:=cs 0 _ _ _ _ c0 O;obtain⟨f2,U,v2⟩:=v1.Ip (pw:=dec (dec pw)) rfl E;rcases lq ⟨dec (dec pw),f1⟩ f2 with d2|d2
 ·rw[d2]at U
  have:ax E (a7 lg.isSome) ⟨pw,fs⟩=(⟨dec (dec pw),f1⟩,13):=by cases lg<;>simp[a7,ax,M,O,U]
  rw[this]at he;subst he;exact .inr ⟨rfl,v1.fw D Z (c1.mono O_ L_)⟩
 rw[d2]at U;have c2:=cs 1 _ _ _ _ c1 U;have a2:=mj pw;have ba:=mj (dec pw);have bb:=mj (dec (dec pw));have bd:=mj (dec (dec (dec pw)));cases lg with
 |none=>
  have:ax E (a7 (b_:Option af).isSome) ⟨pw,fs⟩=(⟨dec (dec (dec pw)),f2⟩,0):=by simp[a7,ax,M,O,U]
  rw[this]at he;subst he;exact .inl ⟨rfl,show dec (dec (dec pw))<=_ by omega,⟨_,_,0,v2,G,.inl ⟨rfl,rfl⟩⟩,c2.mono O_ L_,by omega,Km _,by simpa using hr,by simpa using I⟩
 |some f=>
  obtain⟨f3,Y,v3⟩:=v2.Iq (pw:=dec (dec (dec pw))) rfl E;rcases lq ⟨dec (dec (dec pw)),f2⟩ f3 with d3|d3
  ·rw[d3]at Y
   have:ax E (a7 (c_ f).isSome) ⟨pw,fs⟩=(⟨dec (dec (dec pw)),f2⟩,13):=by simp[a7,ax,M,O,U,Y]
   rw[this]at he;subst he;exact .inr ⟨rfl,v2.fw G Z (c2.mono O_ L_)⟩
  rw[d3]at Y;have c3:=cs 2 _ _ _ _ c2 Y;have:ax E (a7 (c_ f).isSome) ⟨pw,fs⟩=(⟨dec (dec (dec (dec pw))),f3⟩,0):=by simp[a7,ax,M,O,U,Y]
  rw[this]at he;subst he;exact .inl ⟨rfl,show dec (dec (dec (dec pw)))<=_ by omega,⟨_,_,0,v3,G,.inr rfl⟩,c3.mono O_ L_,by omega,Km _,by simpa using hr,by simpa using I⟩
end
def PZ(Es:List En)(l:List UInt8):Prop:=(∃E∈Es,pQ E=v_/\l=aN E)\/∃s:ByteArray,1<=s.size/\s.size<=64/\l=ed s
variable{K n d g:Nat}
theorem wU(s:ByteArray):(ed s).length=2+s.size:=by have:=eX s;unfold ed;simp only[p_,this];rfl
theorem PZ.len{Es:List En}{l:List UInt8}(h:PZ Es l):l.length<=65536:=by
 rcases h with⟨E,-,h1,rfl⟩|⟨s,h1,h2,rfl⟩
 ·exact(qv h1).2
 rw[wU];omega
theorem ow{Es:List En}:∀(L:List (List UInt8)) (t:List En),Ix.Good t->(∀e∈t,e∈Es/\pQ e=v_)->(∀l∈L,PZ Es l)->∃es,replay t L=c_ es/\Ix.Good es/\∀e∈es,e∈Es/\pQ e=v_
 |[],t,h0,h1,_=>⟨t,rfl,h0,h1⟩
 |l::L,t,h0,h1,h2=>by
  have G:∃D,cL t l=c_ D/\∀e∈D,e∈Es/\pQ e=true:=by
   rcases h2 l (by simp)with⟨E,O,M,rfl⟩|⟨s,s1,s2,rfl⟩
   ·exact⟨_,oF t (qv M).1,λe he=>by
     rcases cP.1 he with rfl|he
     ·exact⟨O,M⟩
     exact h1 e he.1⟩
   exact⟨_,tC t s1 s2,λe he=>h1 e (cq.1 he).1⟩
  obtain⟨D,hs,I⟩:=G;obtain⟨es,U,V,Y⟩:=ow L D (h0.step hs) I (λl G=>h2 l (by simp[G]));exact⟨es,by rw[replay,hs];exact U,V,Y⟩
theorem LI.ps{Es:List En}{st:St}{base rest:List (List UInt8)}{es:List En}(h:LI (PZ Es) K n d st g base rest es):Ix.Good es/\∀e∈es,e∈Es/\pQ e=true:=by
 obtain⟨t,h1,h2,D⟩:=ow (base++rest) [] Ix.Good.nil (λe he=>by cases he) h.yP;rw[h.rep]at h1;cases h1;exact⟨h2,D⟩
theorem FW.ps{Es:List En}{st st':St}(h:FW (PZ Es) K n d st)(t:st.aa<=9223372036854775807){ps ls:List (List UInt8)}(M:aW st=(st',.ok (g,ps,ls))):ps.length<=50000/\ls.length<=K/\(∀l∈ps++ls,l.length<=65536)/\∃es,replay [] (ps++ls)=c_ es/\LI (PZ Es) K (n+1) d st' g ps ls es:=by
 obtain⟨h1,h2,G,O⟩:=h.opened t (λl D=>D.len) M;obtain⟨es,I,-⟩:=ow (ps++ls) [] Ix.Good.nil (λe he=>by cases he) G;exact⟨h1,h2,λl D=>(G l D).len,es,I,O I⟩
theorem wM(f:En->Nat):∀(es Es:List En),es.Nodup->(∀e∈es,e∈Es)->es.length<=Es.length/\(es.map f).sum<=(Es.map f).sum
 |[],Es,_,_=>⟨Km _,Km _⟩
 |e::es,Es,hn,hs=>by
  obtain⟨a,b,rfl⟩:=List.append_of_mem (hs e (by simp));rw[List.nodup_cons]at hn;have:=wM f es (a++b) hn.2 λx hx=>by
   have:=hs x (by simp[hx]);rcases KI.1 this with h|h
   ·exact Mg _ h
   rcases JL.1 h with rfl|h
   ·exact absurd hx hn.1
   exact Le _ h
  simp at this⊢;omega
theorem yw{es:List En}(h:Ix.Good es):es.Nodup:=List.Pairwise.imp (λ{a b} t e=>by subst e;rw[before_irrefl]at t;cases t) h.rising
theorem Aw{Es es:List En}(G:Es.length<=40)(hw:dL Es<=3000)(t:Ix.Good es)(hs:∀e∈es,e∈Es/\pQ e=v_)(g:Nat):es.length<=40/\(bE g (cy (es.map aN).length::es.map aN)).length<=280000:=by
 obtain⟨h1,h2⟩:=wM pT es Es (yw t) λe he=>(hs e he).1
 have D:∀l:List En,(((l.map pT).sum:Nat):Int)<=90*dL l:=by
  intro l
  induction l with
  |nil=>simp[dL]
  |cons e l I=>have:=Ag e;simp only[Ks,List.sum_cons,dL];omega
 have M:Cs (es.map aN)=(es.map pT).sum:=by
  unfold Cs;rw[Mv]
  congr 1
  exact List.map_congr_left λe he=>by unfold pT;rw[G_ (hs e he).2];rfl
 have O:=D Es;refine⟨by omega,?_⟩;rw[dr,p_,bc,vM,ep,KL];omega
structure Xn where
 st:St
 g:Nat
 base:List (List UInt8)
 rest:List (List UInt8)
 es:List En
def PK(w:j_)(F:Nat->Prop)(bm bo b:Nat):Prop:=b<w.heap.size/\¬F b/\b≠bm/\b≠bo
structure JM(W w:j_)(F:Nat->Prop)(bm:Nat)(m:Xn)(v bv rv lv:m_)(bo:Nat)(ob:Array m_)(ot:Ki):Prop where
 below:n_ W.heap.size W w
 box:w.heap[bm]?=c_ (f_ #[e_ d_ m.st.aa,v,e_ d_ (m.g:Nat),bv,rv,lv] 47 (0,0))
 tq:w.heap[bo]?=c_ (f_ ob ot (0,0))
 lo:W.heap.size<=bm/\W.heap.size<=bo
 o:¬F bm/\¬F bo
 ref:mE (PK w F bm bo) w m.st.files m.base m.rest m.es v bv rv lv
section
variable{W w w':j_}{F F' H S X:Nat->Prop}{bm:Nat}{m m':Xn}{v bv rv lv v' bv' rv' lv':m_}{bo:Nat}{ob:Array m_}{ot:Ki}
theorem JM.lt(h:JM W w F bm m v bv rv lv bo ob ot):bm<w.heap.size/\bo<w.heap.size:=⟨ao h.box,ao h.tq⟩
theorem JM.kept(h:JM W w F bm m v bv rv lv bo ob ot)(D:Kept X w w')(G:¬X bm/\¬X bo/\∀b,PK w F bm bo b->¬X b)(t:n_ W W w')(M:∀k,F' k->F k\/w.heap.size<=k):JM W w' F' bm m v bv rv lv bo ob ot:=by
 obtain⟨l1,l2⟩:=h.lt;have U:=D.size;have I:∀b,¬F b->b<w.heap.size->¬F' b:=λb h1 h2 O=>by
  rcases M b O with h|h
  ·exact h1 h
  omega
 exact⟨t,(D.block _ l1 G.1).trans h.box,(D.block _ l2 G.2.1).trans h.tq,h.lo,⟨I _ h.o.1 l1,I _ h.o.2 l2⟩,h.ref.ae λb t=>⟨⟨by have:=t.1;omega,I b t.2.1 t.1,t.2.2⟩,D.block b t.1 (G.2.2 b t)⟩⟩
theorem JM.go(h:JM W w F bm m v bv rv lv bo ob ot)(t:n_ w w w'):JM W w' F bm m v bv rv lv bo ob ot:=
 h.kept (Kept.ar (F:=λ_=>False) t) ⟨λh=>h,λh=>h,λ_ _ h=>h⟩ (h.below.trans (t.mono h.below.size)) λk D=>.inl D
theorem JM.hS(h:JM W w F bm m v bv rv lv bo ob ot):∀b,PK w F bm bo b->b<w.heap.size:=λb t=>t.1
theorem JM.wO(h:JM W w F bm m v bv rv lv bo ob ot)(D:∀k,F k->k<w.heap.size)(G:n_ w w w'):∀b,fO (PK w F bm bo) w w' b->PK w' F bm bo b:=λb t=>by
 obtain⟨l1,l2⟩:=h.lt;have M:=h.below.size;have hs:=G.size;rcases t with h|h
 ·exact⟨by have:=h.1;omega,h.2⟩
 exact⟨h.2,λI=>by have:=D b I;omega,by omega,by omega⟩
theorem JM.cells(h:JM W w F bm m v bv rv lv bo ob ot):(w.cell? ⟨bm,0,b_⟩=c_ (e_ d_ m.st.aa)/\w.cell? ⟨bm,1,b_⟩=c_ v/\w.cell? ⟨bm,2,b_⟩=c_ (e_ d_ (m.g:Nat))/\w.cell? ⟨bm,3,b_⟩=c_ bv/\w.cell? ⟨bm,4,b_⟩=c_ rv/\w.cell? ⟨bm,5,b_⟩=c_ lv)/\
  w.frozen? ⟨bm,0,b_⟩=o_/\w.frozen? ⟨bm,1,b_⟩=o_/\w.frozen? ⟨bm,2,b_⟩=o_/\w.frozen? ⟨bm,3,b_⟩=o_/\w.frozen? ⟨bm,4,b_⟩=o_/\w.frozen? ⟨bm,5,b_⟩=false:=by
 have hr:=h.box;simp[E_,JW,hr]
theorem JM.store(h:JM W w F bm m v bv rv lv bo ob ot)(G:bo≠bm)(hr:mE (PK w F bm bo) w m'.st.files m'.base m'.rest m'.es v' bv' rv' lv'){I:j_}
  (hw:I=((((((w.setCell ⟨bm,0,b_⟩ (e_ d_ m'.st.aa)).setCell ⟨bm,1,b_⟩ v').setCell ⟨bm,2,b_⟩ (e_ d_ (m'.g:Nat))).setCell ⟨bm,3,b_⟩ bv').setCell ⟨bm,4,b_⟩ rv').setCell ⟨bm,5,b_⟩ lv')):JM W I F bm m' v' bv' rv' lv' bo ob ot/\Kept (·=bm) w I:=by
 obtain⟨l1,l2⟩:=h.lt;have t:=rS bm w (e_ d_ m'.st.aa) v' (e_ d_ (m'.g:Nat)) bv' rv' lv';rw[<-hw]at t;have M:=ai (ai (ai (ai (ai (ai h.box 0 (e_ d_ m'.st.aa)) 1 v') 2 (e_ d_ (m'.g:Nat))) 3 bv') 4 rv') 5 lv';simp only[JE,J0,J3]at M;have O:=t.size;have D:=t.below h.below.size (λk t=>by have:=h.lo.1;omega);exact⟨⟨h.below.trans D,by rw[hw];exact M,(t.block _ l2 G).trans h.tq,h.lo,h.o,hr.ae λb D=>⟨⟨by have:=D.1;omega,D.2⟩,t.block b D.1 D.2.2.1⟩⟩,t⟩
theorem JM.step{D:Array m_}{G:Ki}(h:JM W w F bm m v bv rv lv bm D G)(M:∀k,F k->k<w.heap.size)(ob:Array m_)(ot:Ki):JM W (w.alloc (f_ ob ot)) F bm m v bv rv lv w ob ot:=by
 have I:=ah w (f_ ob ot);have h2:=h.go I;have O:=h.below.size;exact⟨h2.below,h2.box,r_ w _,⟨h.lo.1,O⟩,⟨h.o.1,λU=>by have:=M _ U;omega⟩,h.ref.ae λb t=>⟨⟨by have:=t.1;simp;omega,t.2.1,t.2.2.1,by have:=t.1;omega⟩,I.block b t.1⟩⟩
theorem JM.head(h:JM W w F bm m v bv rv lv bo ob ot):JM W w F bm m v bv rv lv bm #[e_ d_ m.st.aa,v,e_ d_ (m.g:Nat),bv,rv,lv] 47:=
 ⟨h.below,h.box,h.box,⟨h.lo.1,h.lo.1⟩,⟨h.o.1,h.o.1⟩,h.ref.ae λb t=>⟨⟨t.1,t.2.1,t.2.2.1,t.2.2.1⟩,rfl⟩⟩
theorem JM.GN{Z I M O U V:m_}(h:JM W w F bm m v bv rv lv bo #[Z,I,M,O,U,V] ot)(G:bo≠bm)(x:m_):JM W (w.setCell ⟨bo,0,b_⟩ x) F bm m v bv rv lv bo #[x,I,M,O,U,V] ot/\Kept (·=bo) w (w.setCell ⟨bo,0,b_⟩ x):=by
 obtain⟨l1,l2⟩:=h.lt;have t:Kept (·=bo) w (w.setCell ⟨bo,0,b_⟩ x):=(Kept.refl (·=bo) _).setCell (p:=⟨bo,0,b_⟩) (.inl rfl) _;have Y:=ai h.tq 0 x;simp only[JE,J0,J3]at Y;have hz:=t.size;exact⟨⟨h.below.trans (t.below h.below.size (λk t=>by have:=h.lo.2;omega)),(t.block _ l1 (λe=>G e.symm)).trans h.box,Y,h.lo,h.o,h.ref.ae λb D=>⟨⟨by have:=D.1;omega,D.2⟩,t.block b D.1 D.2.2.2⟩⟩,t⟩
end
structure JX(W w:j_)(px p:Nat)(j:Xn)(F H S:Nat->Prop)(bm:Nat)(m:Xn)(v bv rv lv:m_)(bo:Nat)(ob:Array m_)(ot:Ki):Prop where
 xh:XH W.heap.size W w px p j.st j.g j.base j.rest j.es F H S
 jm:JM W w (λk=>F k\/H k\/S k) bm m v bv rv lv bo ob ot
 sn:∀k,S k->W.heap.size<=k
section
variable{W w w':j_}{px p:Nat}{j:Xn}{F H S:Nat->Prop}{bm:Nat}{m m':Xn}{v bv rv lv v' bv' rv' lv':m_}{bo:Nat}{ob:Array m_}{ot:Ki}
theorem JX.go(h:JX W w px p j F H S bm m v bv rv lv bo ob ot)(t:n_ w w w'):JX W w' px p j F H S bm m v bv rv lv bo ob ot:=⟨h.xh.go L_ t,h.jm.go t,h.sn⟩
theorem JX.op(h:JX W w px p j F H S bm m v bv rv lv bo ob ot)(D:Xn)(hp:cW w px p F H S D.st D.g D.base D.rest D.es w'):∃F' G S',JX W w' px p D F' G S' bm m v bv rv lv bo ob ot/\Kept (λk=>F k\/H k) w w':=by
 obtain⟨F',G,S',hx,t,M,O,I⟩:=h.xh.op L_ hp;exact⟨F',G,S',⟨hx,h.jm.kept t ⟨λe=>h.jm.o.1 (e.imp id .inl),λe=>h.jm.o.2 (e.imp id .inl),λb U e=>U.2.1 (e.imp id .inl)⟩ hx.below (λk t=>by
  rcases t with t|t|t
  ·exact(M k t).imp .inl id
  ·exact(O k t).imp (λh=>.inr (.inl h)) id
  exact(I k t).imp (λh=>.inr (.inr h)) id),λk hs=>by
  rcases I k hs with a|a
  ·exact h.sn k a
  have:=h.jm.below.size;omega⟩,t⟩
theorem JX.Di(h:JX W w px p j F H S bm m v bv rv lv bo ob ot):∀k,(F k\/H k\/S k)->k<w.heap.size:=h.xh.xf.lt
theorem XH.set{b:Nat}(h:XH W W w px p j.st j.g j.base j.rest j.es F H S)(t:Kept (·=b) w w')(G:¬(F b\/H b\/S b))(I:W<=b):XH W W w' px p j.st j.g j.base j.rest j.es F H S:=
 ⟨h.xf.block (λk D=>t.block k (h.xf.lt k D) λe=>G (e▸D)) t.size,h.new,h.below.trans (t.below (h.size L_) λk t=>by omega)⟩
theorem JX.store(h:JX W w px p j F H S bm m v bv rv lv bo ob ot)(t:bo≠bm)(hr:mE (PK w (λk=>F k\/H k\/S k) bm bo) w m'.st.files m'.base m'.rest m'.es v' bv' rv' lv'){D:j_}
  (hw:D=((((((w.setCell ⟨bm,0,b_⟩ (e_ d_ m'.st.aa)).setCell ⟨bm,1,b_⟩ v').setCell ⟨bm,2,b_⟩ (e_ d_ (m'.g:Nat))).setCell ⟨bm,3,b_⟩ bv').setCell ⟨bm,4,b_⟩ rv').setCell ⟨bm,5,b_⟩ lv')):JX W D px p j F H S bm m' v' bv' rv' lv' bo ob ot:=by
 obtain⟨h1,h2⟩:=h.jm.store t hr hw;exact⟨h.xh.set h2 h.jm.o.1 h.jm.lo.1,h1,h.sn⟩
theorem JX.GN{U D G I M O:m_}(h:JX W w px p j F H S bm m v bv rv lv bo #[U,D,G,I,M,O] ot)(t:bo≠bm)(x:m_):JX W (w.setCell ⟨bo,0,b_⟩ x) px p j F H S bm m v bv rv lv bo #[x,D,G,I,M,O] ot:=by
 obtain⟨h1,h2⟩:=h.jm.GN t x;exact⟨h.xh.set h2 h.jm.o.2 h.jm.lo.2,h1,h.sn⟩
theorem JX.gu(h:JX W w px p j F H S bm m v bv rv lv bo ob ot):∀b,b<W.heap.size->PK w (λk=>F k\/H k\/S k) bm bo b:=λb D=>⟨Kc D h.jm.below.size,λt=>by
 rcases t with t|t|t
 ·have:=h.xh.new b (.inl t);omega
 ·have:=h.xh.new b (.inr t);omega
 have:=h.sn b t;omega,by have:=h.jm.lo.1;omega,by have:=h.jm.lo.2;omega⟩
end
structure JC(W w:j_)(p:Nat)(st:St)(F:Nat->Prop)(bm:Nat)(m:Xn)(v bv rv lv:m_)(bo:Nat)(ob:Array m_)(ot:Ki):Prop where
 fs:Jw w p st F
 new:∀k,F k->W.heap.size<=k
 jm:JM W w F bm m v bv rv lv bo ob ot
section
variable{W w w':j_}{px p p':Nat}{j:Xn}{st st':St}{F F' H S:Nat->Prop}{bm:Nat}{m m':Xn}{v bv rv lv v' bv' rv' lv':m_}{bo:Nat}{ob:Array m_}{ot:Ki}
theorem JX.qJ(h:JX W w px p j F H S bm m v bv rv lv bo ob ot)(G:Jw w' p' st' F')(hn:∀k,F' k->w.heap.size<=k/\k<w'.heap.size)(D:n_ w w w'):JC W w' p' st' F' bm m v bv rv lv bo ob ot:=
 ⟨G,λk t=>by have:=(hn k t).1;have:=h.jm.below.size;omega,h.jm.kept (Kept.ar (F:=λ_=>False) D) ⟨λh=>h,λh=>h,λ_ _ h=>h⟩ (h.jm.below.trans (D.mono h.jm.below.size)) λk t=>.inr (hn k t).1⟩
theorem JC.go(h:JC W w p st F bm m v bv rv lv bo ob ot)(t:n_ w w w'):JC W w' p st F bm m v bv rv lv bo ob ot:=⟨h.fs.below t,h.new,h.jm.go t⟩
theorem JC.opened(h:JC W w p st F bm m v bv rv lv bo ob ot){g:Nat}{ps ls:List (List UInt8)}{es:List En}{e:KS}(I:fS w p F (st',.ok (g,ps,ls)) e w')(hr:replay [] (ps++ls)=c_ es):
  ∃px F' H S,e=k_ (J_ #[i_ (c_ ⟨px,0,b_⟩),.int d_ 0])/\JX W w' px p ⟨st',g,ps,ls,es⟩ F' H S bm m v bv rv lv bo ob ot:=by
 obtain⟨px,F',H,S,rfl,hx,t,G,M⟩:=I.held hr h.jm.below L_ h.new;exact⟨px,F',H,S,rfl,hx,h.jm.kept G ⟨h.jm.o.1,h.jm.o.2,λb O=>O.2.1⟩ hx.below λk D=>by
  rcases D with D|D
  ·exact M k D
  exact .inr (t k D),λk G=>by have:=t k (.inr G);have:=h.jm.below.size;omega⟩
theorem JC.failed(h:JC W w p st F bm m v bv rv lv bo ob ot){n:Int}{e:KS}(G:fS w p F (st',.error n) e w'):e=k_ (J_ #[i_ b_,e_ d_ n])/\∃F',JC W w' p st' F' bm m v bv rv lv bo ob ot:=by
 obtain⟨F',h1,t,D,rfl⟩:=G;have hs:=h.jm.below.size;exact⟨rfl,F',h1,λk t=>by
  rcases D k t with a|a
  ·exact h.new k a
  omega,h.jm.kept t ⟨h.jm.o.1,h.jm.o.2,λb I=>I.2.1⟩ (h.jm.below.trans (t.below hs h.new)) D⟩
end
structure vm where
 dK:Int
 n:Int
 E:En
 A:Option Kb
 c:Nat
 kv:m_
 keeps:List Int
def vm.cells(o:vm):List m_:=[e_ d_ o.dK,e_ d_ o.n,g_ o.E.uri,e_ d_ o.E.bu,a_ o.A o.E.aI.length o.c,o.kv]
structure qm(w:j_)(B:Nat)(o:vm):Prop where
 IF:bW (·<B) w (eV o.E o.A o.c) o.E
 ints:bw w B o.kv (ints o.keeps)
 EB:o.keeps.length<=17592186043904
 num:o.n<=9223372036854775807
 ok:∀x∈o.E.aI,qj x
 uri:o.E.uri.size<=140737488355328
def fa(w:j_)(B:Nat)(v:m_)(os:List vm):Prop:=
 ∃A c,v=a_ A os.length c/\os.length<=c/\c<=9223372036854775807/\(∀o∈os,qm w B o)/\
  ∀i (h:i<os.length),∃b off,A=c_ ⟨b,off,b_⟩/\b<B/\∀j,j<6->w.cell? ⟨b,off+i*6+j,b_⟩=os[i].cells[j]?
variable{w w':j_}{B n c:Nat}{v:m_}{A:Option Kb}
theorem qm.same{o:vm}(h:qm w B o)(D:∀b,b<B->w'.heap[b]?=w.heap[b]?):qm w' B o:=
 ⟨h.IF.ae λb t=>⟨t,D b t⟩,h.ints.ae λb o t=>D_ (a:=⟨b,o,b_⟩) (D b t),h.EB,h.num,h.ok,h.uri⟩
theorem fa.same{os:List vm}(h:fa w B v os)(G:∀b,b<B->w'.heap[b]?=w.heap[b]?):fa w' B v os:=by
 obtain⟨A,c,h1,h2,I,M,O⟩:=h;refine⟨A,c,h1,h2,I,λo U=>(M o U).same G,λi hi=>?_⟩;obtain⟨b,off,e,t,D⟩:=O i hi;exact⟨b,off,e,t,λj hj=>by rw[<-D j hj];exact D_ (a:=⟨b,_,b_⟩) (G b t)⟩
theorem fa.below{os:List vm}(h:fa w B v os)(t:n_ B w w'):fa w' B v os:=h.same t.block
theorem fa.form{os:List vm}(h:fa w B v os):∃A c,v=a_ A os.length c/\os.length<=c/\c<=9223372036854775807:=by
 obtain⟨A,c,h1,h2,t,-⟩:=h;exact⟨A,c,h1,h2,t⟩
theorem fa.take{os:List vm}(h:fa w B (a_ A n c) os)(k:Nat)(Y:k<=os.length):fa w B (a_ A k c) (os.take k):=by
 obtain⟨Z,c',e,h2,D,G,I⟩:=h;injection e with M e2 O;subst M O;have t:(os.take k).length=k:=by simp;omega
 refine⟨A,c,by rw[t],by omega,D,λo U=>G o (List.mem_of_mem_take U),λi hi=>?_⟩;rw[t]at hi;obtain⟨b,off,e,V,hc⟩:=I i O_;exact⟨b,off,e,V,λj hj=>by rw[hc j hj,List.getElem_take]⟩
theorem fa.Jf{os:List vm}(h:fa w B (a_ A n c) os)(k:Nat)(t:k<os.length):qm w B os[k]/\∃b off,A=c_ ⟨b,off,b_⟩/\b<B/\w.cell? ⟨b,off+k*6,b_⟩=c_ (e_ d_ os[k].dK)/\w.cell? ⟨b,off+k*6+1,b_⟩=c_ (e_ d_ os[k].n)/\
  w.cell? ⟨b,off+k*6+2,b_⟩=c_ (g_ os[k].E.uri)/\w.cell? ⟨b,off+k*6+3,b_⟩=c_ (e_ d_ os[k].E.bu)/\w.cell? ⟨b,off+k*6+4,b_⟩=c_ (a_ os[k].A os[k].E.aI.length os[k].c)/\w.cell? ⟨b,off+k*6+5,b_⟩=c_ os[k].kv:=by
 obtain⟨U,V,e,h2,Y,D,G⟩:=h;injection e with I Z M;subst I M;obtain⟨b,off,e,O,hc⟩:=G k t;exact⟨D _ (JB t),b,off,e,O,hc 0 O_,hc 1 O_,hc 2 O_,hc 3 O_,hc 4 O_,hc 5 O_⟩
theorem zc(A:Option Kb)(n c N:Nat)(w:j_)(h:N<=c):(Instr.slice 77 (a_ A n c) b_ (c_ (e_ d_ (N:Int))) b_).run h_ w=.ok (a_ A N c) w:=by
 have t:h_.underlying 77=c_ (.slice (h_.elem 77)):=by simp[K7,Tryz.underlying77]
 have he:h_.elem 77=81:=by simp[K7,Tryz.underlying77]
 rw[run_slice_h w 77 _ _ _ t d_ _ O_ O_,he,Tryz.sizeOf81];simp only[Result.andThen,sliced];cases A<;>simp[Addr.add]
theorem C3(v:m_)(os:List vm)(B:Nat)(w:j_)(h:fa w B v os):
  H_ h_ 30 #[v] w λe w'=>∃u,e=k_ u/\fa w B u (os.take 40)/\w'=w:=by
 have h0:=h;obtain⟨A,c,rfl,h2,t,-,-⟩:=h;have H:=Z_ h0;clear h0;by_cases D:(os.length:Int)>40
 ·have hs:=zc A os.length c 40 w O_
  go_enter Tryz.func30,Tryz.ntmps30;go_wp2;go_ret;exact⟨_,rfl,H.o.take 40 O_,rfl⟩
 go_enter Tryz.func30,Tryz.ntmps30;go_wp2;go_ret;refine⟨_,rfl,?_,rfl⟩;rw[Kq O_];exact H.o
theorem uj(v:m_)(os:List vm)(w:j_)(h:fa w w v os)(hl:os.length<=1000000):
  H_ h_ 31 #[v] w λe w'=>∃A c,e=k_ (a_ A os.length c)/\aS (·<w'.heap.size) w' (a_ A os.length c) (os.map (·.E))/\n_ w w w':=by
 obtain⟨A,c,rfl,hc,hm⟩:=h.form;have HX:=Z_ h;obtain⟨W1,I⟩:=N_ (w.alloc (f_ #[] 55));have V:n_ w w W1:=by rw[I];exact B_.alloc L_ _
 have Y:=Z_ V;have Z:x_ (az 55 3 (iF (·<w.heap.size)) 0 w W1 ((os.take 0).map (·.E)) (a_ (c_ ⟨w,0,b_⟩) 0 0) []):=Z_ (by rw[I];exact az.made w L_);clear h hc hm V;go_enter Tryz.func31,Tryz.ntmps31;go_wp2;rw[<-I];clear I
 go_loopw [3,4] (λsv jv W'=>∃(j:Nat) (us:List m_),j<=os.length/\jv=e_ d_ j/\x_ (az 55 3 (iF (·<w.heap.size)) 0 w W' ((os.take j).map (·.E)) sv us)/\x_ (n_ w w W')) (λ_ jv _=>os.length - (A_ jv).toNat)
 case atStart=>exact⟨0,[],by omega,rfl,Z,Y⟩
 clear Z Y;obtain⟨j,us,hj,rfl,HR,HB⟩:=hrel;have hz:=HB.o.size;obtain⟨Al,cl,ad,-,-⟩:=HR.o.form;have D:((os.take j).map (·.E)).length=j:=by simp;omega
 rw[D]at ad;subst ad;by_cases ak:j<os.length
 ·obtain⟨av,b,off,rfl,hb,-,-,x0,x1,x2,-⟩:=(HX.o.below HB.o).Jf j ak
  have a1:=Z_ av.IF;have a2:x_ ((os.take (j+1)).map (·.E)=(os.take j).map (·.E)++[os[j].E]):=Z_ (by rw[y_ ak,Lb];rfl);have t:=HR.o.own;obtain⟨bd,O⟩:=N_ (us.flatMap cX);rw[<-O,D]at t;have bf:=Z_ O;have bg:=Z_ D;generalize os[j]=o at*;obtain⟨dK,n,E,A',c',kv,ks⟩:=o;simp only at x0 x1 x2 a1 a2;clear O av D;go_wp2_with (at_builtin;refine dc _ rfl _ _ _ rfl w _ 3 EP _ j bd rfl (Kf t _) ⟨wr,0,b_⟩ 1 1 [g_ E.uri,e_ d_ E.bu,a_ A' E.aI.length c'] rfl rfl (bF _ _ _) (uB _ _ _ _ _) O_ (by simp;omega) ?_;intro v5 w5 G U M);have ba:=Z_ (kR HR.o a1.o (λg hg=>⟨hg,hg⟩) hz (by rw[bg.o,<-bf.o];exact G) U M);rw[<-a2.o]at ba;have HB5:x_ (n_ w w w5):=Z_ (bK HB.o hz _ U (λg e=>(t.lt g e).1));clear G U M t x0 x1 x2;go_wp2;go_roundw
  case rel=>exact⟨j+1,_,by omega,by go_num,ba,HB5⟩
  simp[A_];omega
 have bb:j=os.length:=by omega
 have HE:x_ (aS (·<wr.heap.size) wr (a_ Al os.length cl) (os.map (·.E))):=Z_ (by
  have h1:=HR.o.zV;rw[bb,JO]at h1;exact h1.ae λg hg=>⟨hg.2,rfl⟩)
 clear D HR;subst bb;go_wp2;go_ret;exact⟨_,_,rfl,HE.o,HB.o⟩
structure CJ(J:Xn):Prop where
 pw:J.st.aa<=9223372036854775807
 calm:Calm J.st.files 400 600000
 g:J.g<=100
 rest:J.rest.length<=100/\∀l∈J.rest,l.length<=65536
 es:J.es.length<=40/\Ix.Good J.es/\∀e∈J.es,gF e=v_/\(aN e).length<=65536
 lay:(bE (J.g+1) (cy (J.es.map aN).length::J.es.map aN)).length<=280000
def LX(Es:List En)(K n d:Nat)(J:Xn):Prop:=LI (PZ Es) K n d J.st J.g J.base J.rest J.es
def zk(J:Xn)(E:En):Xn×Int:=(⟨(fQ J.st J.g J.rest J.es E).1,J.g,J.base,(fQ J.st J.g J.rest J.es E).2.2.1,(fQ J.st J.g J.rest J.es E).2.2.2⟩,(fQ J.st J.g J.rest J.es E).2.1)
def zl(J:Xn)(s:ByteArray):Xn×Int:=(⟨(gR J.st J.g J.rest J.es s).1,J.g,J.base,(gR J.st J.g J.rest J.es s).2.2.1,(gR J.st J.g J.rest J.es s).2.2.2⟩,(gR J.st J.g J.rest J.es s).2.1)
def CF(J:Xn):Xn×Int:=(⟨(dx J.st).1,J.g,J.base,J.rest,J.es⟩,(dx J.st).2)
def wC(J:Xn):St×Int:=ax (bE (J.g+1) (cy (J.es.map aN).length::J.es.map aN)) (a7 (bV J.st.files aK)) J.st
def se(J:Xn):Xn×Int:=(⟨(wC J).1,if(wC J).2=0 then J.g+1 else J.g,if(wC J).2=0 then J.es.map aN else J.base,if(wC J).2=0 then []else J.rest,J.es⟩,(wC J).2)
section
variable{Es:List En}{K n d:Nat}{J:Xn}
theorem LX.sm(h:LX Es K n d J)(t:Es.length<=40)(hw:dL Es<=3000)(M:K<=100)(hn:n<=400)(D:d<=600000):CJ J:=by
 obtain⟨h1,h2⟩:=h.ps;obtain⟨G,I⟩:=Aw t hw h1 h2 (J.g+1);exact⟨h.pw,h.calm.mono hn D,by have:=h.gk;omega,⟨by have:=h.rl;omega,λl t=>(h.yP l (Le _ t)).len⟩,⟨G,h1,λe he=>qv (h2 e he).2⟩,I⟩
theorem LX.I6(h:LX Es K n d J){E:En}(M:E∈Es):LX Es (K+1) (n+4) (d+78+pT E) (zk J E).1:=by
 unfold zk;cases t:gF E with
 |false=>rw[rG t];exact h.mono O_ O_ O_
 |true=>
  by_cases G:65536<(aN E).length
  ·rw[oo t G];exact h.mono O_ O_ O_
  have I:pQ E=true:=by unfold pQ;rw[t,JR O_];rfl
  obtain⟨R,D,h1,-,O⟩:=h.append (.inl ⟨E,M,I,rfl⟩) (oF J.es t);rw[nh t G,h1];exact O.mono L_ O_ (by unfold pT;rw[G_ I];omega)
theorem LX.I9(h:LX Es K n d J)(s:ByteArray):LX Es (K+1) (n+4) (d+78) (zl J s).1:=by
 unfold zl;cases t:aj aB s.data.toList J.es with
 |none=>rw[oz t];exact h.mono O_ O_ O_
 |some e=>
  have hu:=eP (h.ps.1.ok e (aV t).1);rw[ly.1 (aV t).2]at hu;obtain⟨R,D,h1,-,G⟩:=h.append (.inr ⟨s,hu.1,hu.2,rfl⟩) (tC J.es hu.1 hu.2);rw[oA t,h1];exact G.mono L_ O_ (by rw[wU];omega)
theorem LX.Jh(h:LX Es K n d J):LX Es (K+1) (n+4) (d+78) (CF J).1:=h.sync.2.mono O_ O_ O_
theorem LX.IQ(h:LX Es K n d J)(D:Es.length<=40)(hw:dL Es<=3000)(I:K<=100)(M:280000<=d):((se J).2=0/\LX Es (K+1) (n+4) d (se J).1)\/((se J).2=13/\FW (PZ Es) (K+1) (n+4) d (se J).1.st):=by
 obtain⟨h1,h2⟩:=h.ps;obtain⟨O,U⟩:=Aw D hw h1 h2 (J.g+1);have t:=h.lay (rows:=J.es.map aN) O_ (λl D=>D.len) (λl D=>by obtain⟨e,he,rfl⟩:=Lr.1 D;exact .inl ⟨e,(h2 e he).1,(h2 e he).2,rfl⟩) (by simp;omega) (by simpa using rO J.es [] (by simpa using h1)) (r:=wC J) rfl O_;unfold se LX;rcases t with⟨t,G⟩|⟨t,G⟩
 ·exact .inl ⟨t,by simp only[t,Ml];exact G⟩
 exact .inr ⟨t,G⟩
end
section
variable{W w w':j_}{px p:Nat}{j:Xn}{F H S:Nat->Prop}{bm:Nat}{m m':Xn}{v bv rv lv v' bv' rv' lv':m_}{bo:Nat}{ob:Array m_}{ot:Ki}{e:KS}
def zu(W:j_)(px p:Nat)(F H:Nat->Prop)(bm:Nat)(m:Xn)(v bv rv lv:m_)(bo:Nat)(ob:Array m_)(ot:Ki)(r:Xn×Int)(w:j_)(e:KS)(w':j_):Prop:=
 e=k_ (e_ d_ r.2)/\x_ (∃F' H' S',JX W w' px p r.1 F' H' S' bm m v bv rv lv bo ob ot/\Kept (λk=>F k\/H k) w w')
theorem JX.I6(h:JX W w px p j F H S bm m v bv rv lv bo ob ot)(hs:CJ j){u:m_}{E:En}(hx:bW (λg=>g<w.heap.size/\¬F g/\¬H g) w u E):H_ h_ 21 #[i_ (c_ ⟨px,0,b_⟩),u] w (zu W px p F H bm m v bv rv lv bo ob ot (zk j E) w):=
 (ph w px p j.g j.st j.base j.rest j.es F H S h.xh.xf u E hx (λt=>hs.calm.modest hs.pw O_ O_) (by have:=hs.rest.1;omega) (by have:=hs.es.1;omega)).mono λe w' ⟨h1,h2⟩=>⟨h1,Z_ (h.op (zk j E).1 h2)⟩
theorem JX.I9(h:JX W w px p j F H S bm m v bv rv lv bo ob ot)(hs:CJ j)(s:ByteArray)(t:s.size<=9223372036854775807):H_ h_ 28 #[i_ (c_ ⟨px,0,b_⟩),g_ s] w (zu W px p F H bm m v bv rv lv bo ob ot (zl j s) w):=
 (uv w px p j.g j.st j.base j.rest j.es F H S h.xh.xf hs.es.2.1 s t (hs.calm.modest hs.pw O_ O_) (by have:=hs.rest.1;omega)).mono λe w' ⟨h1,h2⟩=>⟨h1,Z_ (h.op (zl j s).1 h2)⟩
theorem JX.Jh(h:JX W w px p j F H S bm m v bv rv lv bo ob ot)(hs:CJ j):H_ h_ 24 #[i_ (c_ ⟨px,0,b_⟩)] w (zu W px p F H bm m v bv rv lv bo ob ot (CF j) w):=
 (yy w px p j.g j.st j.base j.rest j.es F H S h.xh.xf (by have:=hs.calm.files;omega) hs.calm.short hs.pw).mono λe w' ⟨h1,h2⟩=>⟨h1,Z_ (h.op (CF j).1 h2)⟩
theorem JX.IQ(h:JX W w px p j F H S bm m v bv rv lv bo ob ot)(hs:CJ j):H_ h_ 23 #[i_ (c_ ⟨px,0,b_⟩)] w (zu W px p F H bm m v bv rv lv bo ob ot (se j) w):=
 (vC w px p j.g j.st j.base j.rest j.es F H S h.xh.xf hs.es.2.1 (by have:=hs.es.1;omega) (λe he=>(hs.es.2.2 e he).2) (by have:=hs.g;omega) (by have:=hs.lay;omega) hs.calm O_ O_ hs.pw).mono λe w' ⟨r,h0,h1,h2⟩=>by
  have h0:wC j=r:=h0;subst h0;exact⟨h1,Z_ (h.op (se j).1 h2)⟩
def sN(F:Nat->Prop)(bm bo:Nat)(r:Xn×Int)(w:j_)(e:KS)(w':j_):Prop:=∃A n c Ab nb cb Ar nr cr Al nl cl,e=k_ (J_ #[JI #[e_ d_ r.1.st.aa,a_ A n c,e_ d_ (r.1.g:Nat),a_ Ab nb cb,a_ Ar nr cr,a_ Al nl cl],e_ d_ r.2])/\
 x_ (mE (PK w' F bm bo) w' r.1.st.files r.1.base r.1.rest r.1.es (a_ A n c) (a_ Ab nb cb) (a_ Ar nr cr) (a_ Al nl cl))/\x_ (n_ w.heap.size w w')
theorem fk.r(hj:JM W w F bm m v bv rv lv bo ob ot)(G:∀k,F k->k<w.heap.size){r:Xn×Int}(h:fk w (PK w F bm bo) (r.1.st,r.2) (r.1.g:Nat) r.1.base r.1.rest r.1.es e w'):sN F bm bo r w e w':=by
 obtain⟨A,n,c,I,M,O,U,V,Y,Z,cl,rfl,hr,D⟩:=h;exact⟨_,_,_,_,_,_,_,_,_,_,_,_,rfl,Z_ (hr.ae λb t=>⟨hj.wO G D b t,rfl⟩),Z_ D⟩
theorem mE.vW{S:Nat->Prop}{fs:List af}{base rest:List (List UInt8)}{es:List En}(h:mE S w fs base rest es v bv rv lv):∃A n c t U D G V I M O,v=a_ A n c/\bv=a_ t U D/\rv=a_ G V I/\lv=a_ M es.length O:=by
 obtain⟨A,c,Y,-⟩:=h.j.ref.form;obtain⟨_,-,⟨t,D,Z,-⟩,-⟩:=h.j.rb;obtain⟨_,-,⟨G,I,e3,-⟩,-⟩:=h.j.rr;obtain⟨M,O,e4,-⟩:=h.l.form;exact⟨A,_,c,t,_,D,G,_,I,M,O,Y,Z,e3,e4⟩
theorem qj.Ie{x:Ex}(h:qj x):eU x.ty:=eU.m8 (by have:=h.1;omega)
theorem JM.Ja(h:JM W w F bm m v bv rv lv bo ob ot)(G:∀k,F k->k<w.heap.size)(hs:CJ m){E:En}{A:Option Kb}{c:Nat}(I:bW (PK w F bm bo) w (eV E A c) E)(t:∀x∈E.aI,qj x)(D:E.aI.length<=1000000):
  H_ h_ 32 #[JI #[e_ d_ m.st.aa,v,e_ d_ (m.g:Nat),bv,rv,lv],eV E A c] w (sN F bm bo (zk m E) w):=by
 obtain⟨M,O,c1,U,V,Y,Z,nr,cr,Al,cl,rfl,rfl,rfl,rfl⟩:=h.ref.vW;exact(rI m.st hs.pw _ w h.hS m.g (by have:=hs.g;omega) m.base m.rest m.es M U Z Al O c1 V Y nr cr cl h.ref (by have:=hs.calm.files;omega) (λf hf=>by have:=hs.calm.data f hf;omega) (by have:=hs.rest.1;omega) (λl hl=>by have:=hs.rest.2 l hl;omega) (by have:=hs.es.1;omega) E A c I (λx hx=>⟨t x hx,(t x hx).Ie⟩) D).mono λe w' hp=>fk.r h G (r:=zk m E) hp
theorem JM.Jb(h:JM W w F bm m v bv rv lv bo ob ot)(t:∀k,F k->k<w.heap.size)(hs:CJ m)(s:ByteArray)(D:s.size<=9223372036854775807):
  H_ h_ 33 #[JI #[e_ d_ m.st.aa,v,e_ d_ (m.g:Nat),bv,rv,lv],g_ s] w (sN F bm bo (zl m s) w):=by
 obtain⟨G,I,c1,M,O,U,V,Y,Z,Al,cl,rfl,rfl,rfl,rfl⟩:=h.ref.vW;exact(sD m.st hs.pw _ w h.hS m.g (by have:=hs.g;omega) m.base m.rest m.es G M V Al I c1 O U Y Z cl h.ref (by have:=hs.calm.files;omega) (λf hf=>by have:=hs.calm.data f hf;omega) (by have:=hs.rest.1;omega) (λl hl=>by have:=hs.rest.2 l hl;omega) (by have:=hs.es.1;omega) hs.es.2.1 s D).mono λe w' hp=>fk.r h t (r:=zl m s) hp
theorem JM.Jc(h:JM W w F bm m v bv rv lv bo ob ot)(t:∀k,F k->k<w.heap.size)(hs:CJ m):
  H_ h_ 34 #[JI #[e_ d_ m.st.aa,v,e_ d_ (m.g:Nat),bv,rv,lv]] w (sN F bm bo (CF m) w):=by
 obtain⟨D,G,c1,I,M,O,U,V,Y,Z,cl,rfl,rfl,rfl,rfl⟩:=h.ref.vW;exact(wP m.st hs.pw _ w h.hS m.g m.base m.rest m.es D I U Z G c1 M O V Y cl h.ref (by have:=hs.calm.files;omega) (λf hf=>by have:=hs.calm.data f hf;omega)).mono λe w' hp=>fk.r h t (r:=CF m) hp
theorem JM.I7(h:JM W w F bm m v bv rv lv bo ob ot)(t:∀k,F k->k<w.heap.size)(hs:CJ m):
  H_ h_ 35 #[JI #[e_ d_ m.st.aa,v,e_ d_ (m.g:Nat),bv,rv,lv]] w (sN F bm bo (se m) w):=by
 obtain⟨D,G,c1,I,M,O,U,V,Y,Z,cl,rfl,rfl,rfl,rfl⟩:=h.ref.vW;exact(rH m.st hs.pw _ w h.hS m.g (by have:=hs.g;omega) m.base m.rest m.es D I U Z G c1 M O V Y cl h.ref hs.calm O_ O_ (λe he=>(hs.es.2.2 e he).1) (λe he=>(hs.es.2.2 e he).2) (by have:=hs.es.1;omega) (by have:=hs.lay;omega)).mono λe w' ⟨r,h0,hp⟩=>by
  have h0:wC m=r:=h0;subst h0;exact fk.r h t (r:=se m) hp
theorem JM.H7(h:JM W w F bm m v bv rv lv bo ob ot)(hs:CJ m)(s:ByteArray)(t:s.size<=9223372036854775807):
  H_ h_ 37 #[JI #[e_ d_ m.st.aa,v,e_ d_ (m.g:Nat),bv,rv,lv],g_ s] w λe w'=>∃A2 c2,e=k_ (J_ #[eV (bZ m.es s.data.toList) A2 c2,.bool (aj aB s.data.toList m.es).isSome])/\x_ (bW (·<w.heap.size) w' (eV (bZ m.es s.data.toList) A2 c2) (bZ m.es s.data.toList))/\x_ (n_ w w w'):=by
 obtain⟨D,G,c1,I,M,O,U,V,Y,Z,cl,rfl,rfl,rfl,rfl⟩:=h.ref.vW;exact(pn m.st.aa m.g D I U Z G c1 M O V Y cl m.es s t _ w h.hS h.ref.l (by have:=hs.es.1;omega)).mono λe w' ⟨A2,c2,h1,h2,h3⟩=>⟨A2,c2,h1,Z_ (h2.ae λb hb=>⟨hb.1,rfl⟩),Z_ h3⟩
theorem JM.Ic(h:JM W w F bm m v bv rv lv bo ob ot)(I:∀k,F k->k<w.heap.size){st st':St}{g:Nat}{ps ls:List (List UInt8)}{es:List En}(G:st.aa<=9223372036854775807)(hc:Calm st.files 400 600000)(M:aW st=(st',.ok (g,ps,ls)))(hr:replay [] (ps++ls)=c_ es)(hp:ps.length+ls.length<=100000)(O:∀l∈ps++ls,l.length<=65536)
  {u:m_} (hu:aA (PK w F bm bo) w u st.files):H_ h_ 16 #[JI #[e_ d_ st.aa,u]] w (sN F bm bo (⟨st',g,ps,ls,es⟩,0) w):=by
 obtain⟨A,c,rfl,-,-⟩:=hu.form;refine(mA st G A c _ w h.hS hu (by have:=hc.files;omega) (λf U=>by have:=hc.data f U;omega) (λx hx=>by rw[M]at hx;cases hx;exact⟨hp,λl h=>by have:=O l h;omega⟩)).mono ?_;rintro e w' ⟨A,n,c,gen,Ab,nb,cb,Ar,nr,cr,Al,nl,cl,er,rfl,h1,h2,D⟩;rw[M]at h1 D⊢;unfold qp at D;simp only[hr]at D;obtain⟨rfl,rfl,V,Y,rfl,Z⟩:=D;have hn:=λb (t:w.heap.size<=b/\b<w'.heap.size)=>h.wO I h2 b (.inr t)
 exact⟨_,_,_,_,_,_,_,_,_,_,_,_,rfl,Z_ ⟨⟨h1.ae λb t=>⟨h.wO I h2 b t,rfl⟩,V.sub hn,Y.sub hn⟩,Z.ae λb t=>⟨hn b t,rfl⟩⟩,Z_ h2⟩
theorem JM.GJ(h:JM W w F bm m v bv rv lv bo ob ot){st st':St}{n:Int}(D:st.aa<=9223372036854775807)(hc:Calm st.files 400 600000)(G:aW st=(st',.error n))
  {u:m_} (hu:aA (PK w F bm bo) w u st.files):H_ h_ 16 #[JI #[e_ d_ st.aa,u]] w λe w'=>∃(A:Option Kb) (k c:Nat) (gen:Int) (I:Option Kb) (M O:Nat) (U:Option Kb) (V Y:Nat) (Z:Option Kb) (nl cl:Nat),e=k_ (J_ #[JI #[e_ d_ st'.aa,a_ A k c,e_ d_ gen,a_ I M O,a_ U V Y,a_ Z nl cl],e_ d_ n])/\x_ (n_ w w w'):=by
 obtain⟨A,c,rfl,-,-⟩:=hu.form;refine(mA st D A c _ w h.hS hu (by have:=hc.files;omega) (λf hf=>by have:=hc.data f hf;omega) (λx hx=>by rw[G]at hx;cases hx)).mono ?_;rintro e w' ⟨A,k,c,gen,I,M,O,U,V,Y,Z,nl,cl,er,rfl,h1,h2,t⟩;rw[G]at t⊢;have t:er=n:=t;subst t;exact⟨_,_,_,_,_,_,_,_,_,_,_,_,_,rfl,Z_ h2⟩
theorem JM.DW(h:JM W w F bm m v bv rv lv bo ob ot)(G:∀k,F k->k<w.heap.size)(hc:Calm m.st.files 400 600000){kv:m_}{keeps:List Int}(I:bw w w kv (ints keeps))(n:Int):
  H_ h_ 36 #[JI #[e_ d_ m.st.aa,v],kv,e_ d_ n] w λe w'=>∃u,e=k_ (JI #[e_ d_ n,u])/\x_ (aA (PK w' F bm bo) w' u (ic m.st keeps n).files)/\x_ (n_ w w w'):=
 (yN m.st.aa v m.st.files _ w h.hS h.ref.j.ref (by have:=hc.files;omega) (λf t=>⟨by have:=hc.data f t;omega,hc.safe f t⟩) kv keeps I n).mono λe w' ⟨u,h1,h2,D⟩=>⟨u,h1,Z_ (h2.ae λb M=>⟨h.wO G D b M,rfl⟩),Z_ D⟩
end
variable{w W:j_}{b B k px p:Nat}{v bv rv lv:m_}{base:List (List UInt8)}{F H S:Nat->Prop}{P:Prop}
theorem aS.box{E:En}{A:Option Kb}{c:Nat}(D:n_ w w W)(t:W.heap[b]?=c_ (f_ #[g_ E.uri,e_ d_ E.bu,a_ A E.aI.length c] 55 (0,0)))(hn:E.uri.size<=9223372036854775807)(hx:bA (·<w.heap.size) w (a_ A E.aI.length c) E.aI):
  aS (·<W.heap.size) W (a_ (c_ ⟨b,0,b_⟩) 1 1) [E]:=by
 refine⟨_,1,rfl,by simp,by simp[maxLen],λ_=>eV E A c,λ_=>⟨b,0,rfl,ao t,λi hi j hj=>?_⟩,λi hi=>?_⟩
 ·have:i=0:=by simpa using hi
  subst this;obtain⟨G,I,M⟩:=aR t;have:j=0\/j=1\/j=2:=by omega
  rcases this with rfl|rfl|rfl
  ·exact G
  ·exact I
  exact M
 have:i=0:=by simpa using hi
 subst this;exact⟨A,c,rfl,hn,hx.ae λg (O:g<w)=>⟨by have:=D.size;show g<W;omega,D.block g O⟩⟩
theorem xu{E:En}(hn:E.uri.size<=9223372036854775807){G A2:Option Kb}{c1 c2:Nat}(h1:bA (·<w.heap.size) w (a_ G E.aI.length c1) E.aI)(h2:bA (·<w.heap.size) w (a_ A2 E.aI.length c2) E.aI)(W:j_)(I M:Nat)(O:n_ w w W)
  (t:W.heap[I]?=c_ (f_ #[g_ E.uri,e_ d_ E.bu,a_ G E.aI.length c1] 55 (0,0))) (D:W.heap[M]?=c_ (f_ #[g_ E.uri,e_ d_ E.bu,a_ A2 E.aI.length c2] 55 (0,0))):
  H_ h_ 17 #[a_ (c_ ⟨I,0,b_⟩) 1 1,a_ (c_ ⟨M,0,b_⟩) 1 1] W λe w'=>e=k_ (.bool v_)/\x_ (n_ W W w'):=
 (kg [E] [E] _ _ W (aS.box O t hn h1) (aS.box O D hn h2)).mono λe w' ⟨U,V⟩=>⟨by rw[U,mB rfl],Z_ V⟩
def Fi(E:En):List UInt8:=if gF E then aN E else []
def recC(E:En):Int:=if gF E then 0 else 200
theorem gm.dH{E:En}{w':j_}{e:KS}(h:gm E w e w'):∃A c,e=k_ (J_ #[a_ A (Fi E).length c,e_ d_ (recC E)])/\x_ (bw w' w' (a_ A (Fi E).length c) (l_ (Fi E)))/\x_ (n_ w w w'):=by
 obtain⟨v',rfl,D,h1,h2⟩:=h;unfold Fi recC;cases G:gF E with
 |true=>
  have t:=h1 G;obtain⟨A,c,rfl⟩:=t.form;rw[t_]at t⊢;exact⟨A,c,rfl,Z_ (Own.dH t),Z_ D⟩
 |false=>
  obtain rfl:=h2 G;exact⟨b_,0,rfl,Z_ (bw.nil _ _),Z_ D⟩
theorem uo{es:List En}(h:∀e∈es,gF e=v_)(s:List UInt8):(bZ es s).uri.size<=64:=by
 unfold bZ;cases t:aj aB s es with
 |none=>exact Km _
 |some e=>exact(eP (h e (aV t).1)).2
theorem lC(pw:Int):aW ⟨pw,[]⟩=(⟨pw,[]⟩,.ok (0,[],[])):=rfl
theorem fa.more{t:Nat}{os:List vm}(h:fa w B v os)(D:B<=t):fa w t v os:=by
 obtain⟨A,c,h1,h2,G,I,M⟩:=h;refine⟨A,c,h1,h2,G,λo O=>?_,λi hi=>?_⟩
 ·have h:=I o O
  exact⟨h.IF.ae λb U=>⟨Kc U D,rfl⟩,h.ints.more D,h.EB,h.num,h.ok,h.uri⟩
 obtain⟨b,off,e,V,hc⟩:=M i hi;exact⟨b,off,e,by omega,hc⟩
theorem kB{a0 D G a3 a4 a5:m_}{t:Ki}(h:W.heap[b]?=c_ (f_ #[a0,D,G,a3,a4,a5] t (0,0))):W.cell? ⟨b,0,b_⟩=c_ a0/\W.cell? ⟨b,1,b_⟩=c_ D/\W.cell? ⟨b,2,b_⟩=c_ G/\W.cell? ⟨b,3,b_⟩=c_ a3/\W.cell? ⟨b,4,b_⟩=c_ a4/\W.cell? ⟨b,5,b_⟩=c_ a5/\W.frozen? ⟨b,0,b_⟩=false:=by
 simp[E_,JW,h]
theorem rn{b:List UInt8}:∀(t:List Nat) {st:St},st.aa<=9223372036854775807->(ax b t st).1.aa<=9223372036854775807
 |[],st,h=>h
 |k::t,st,h=>by
  simp only[ax];split
  ·exact rn t (iE h k)
  exact iE h k
def kt(Es:List En)(k:Nat):Nat:=((Es.take k).map pT).sum
theorem Cr{Es:List En}(h:k<Es.length):kt Es (k+1)=kt Es k+pT Es[k]:=by
 unfold kt;rw[y_ h,Lb,List.sum_append];simp only[Ks,Lf,List.sum_cons,List.sum_nil,L5]
theorem Fo(Es:List En)(k:Nat)(hw:dL Es<=3000):kt Es k<=270000:=by
 have t:∀l:List En,(((l.map pT).sum:Nat):Int)<=90*dL l:=by
  intro l
  induction l with
  |nil=>simp[dL]
  |cons e l D=>have:=Ag e;simp only[Ks,List.sum_cons,dL];omega
 have h1:=t (Es.take k);have h2:=va Es k;unfold kt;omega
theorem XF.Js{gen:Nat}{st:St}{log:List (List UInt8)}{es:List En}(h:XF w px p st gen base log es F H S):Jw w p st F:=by
 obtain⟨t,D,xs,G,hj,-⟩:=h;exact hj.fs
theorem tZ{a:j_}(h:n_ B a W)(t:B<=W)(o:Obj):n_ B a (W.alloc o):=h.alloc t o
theorem zE(h:P:=by repeat first|with_reducible exact HB11.o|with_reducible exact HB10.o|with_reducible exact HB9.o|with_reducible exact HB8.o|with_reducible exact JG _ _|with_reducible refine Below.drew ?_|with_reducible refine dp ?_ _|fail):P:=h
theorem Jm(h:P:=by simp only[jR,mZ,Mm,LY];first|done|(simp;done)|(simp;omega)|(simp;exact HN57.o)|(simp;exact HN7.o)|fail):P:=h
theorem mE.H9{fs:List af}{rest:List (List UInt8)}{es:List En}(h:mE S w fs base rest es v bv rv lv):(∃t D,rv=a_ t rest.length D)/\∃G I,lv=a_ G es.length I:=by
 obtain⟨vs,M,⟨t,D,O,-⟩,-⟩:=h.j.rr;obtain⟨G,I,U,-⟩:=h.l.form;exact⟨⟨t,D,by rw[O,M]⟩,G,I,U⟩
structure IE(W w:j_)(Es:List En)(k px p:Nat)(F H S:Nat->Prop)(bm:Nat)(J:Xn)(v bv rv lv:m_):Prop where
 jx:JX W w px p J F H S bm J v bv rv lv bm #[e_ d_ J.st.aa,v,e_ d_ (J.g:Nat),bv,rv,lv] 47
 li:LX Es k (5*k) (280000+78*k+kt Es k) J
structure FG(W w:j_)(Es:List En)(k px p:Nat)(F H S:Nat->Prop)(bm:Nat)(J:Xn)(v bv rv lv:m_)(bo:Nat)(dK:Int)(ob:m_->Array m_):Prop where
 jx:JX W w px p J F H S bm J v bv rv lv bo (ob (e_ d_ dK)) 81
 fw:FW (PZ Es) (k+1) (5*k+4) (280000+78*(k+1)+kt Es (k+1)) J.st
 pw:J.st.aa<=9223372036854775807
 li:dK≠5->LX Es (k+1) (5*k+4) (280000+78*(k+1)+kt Es (k+1)) J
theorem LX.sw{Es:List En}{bm:Nat}{J:Xn}{bo:Nat}{dK:Int}{ob:m_->Array m_}(hj:JX W w px p J F H S bm J v bv rv lv bo (ob (e_ d_ dK)) 81)(h:LX Es (k+1) (5*k+4) (280000+78*(k+1)+kt Es (k+1)) J)(t:k<40):FG W w Es k px p F H S bm J v bv rv lv bo dK ob:=
 ⟨hj,LI.fw h O_,LI.pw h,λ_=>h⟩
