import Derived.OrdersHeld
import Derived.Test.YtaalbcfpacpgfaaGreatZdIB
set_option linter.all false
set_option maxHeartbeats 16000000
set_option maxRecDepth 100000
open Go.Ending renaming returned->k_
open Go.Fence renaming wide->JK
open Go.IntKind renaming i64->d_
open Go.Maps renaming size->MV
open Go.Obj renaming cells->f_
open Go.Proofs.Tryz renaming prog->h_
open Go.Proofs renaming encStr->M9
open Go.RowKit renaming Below->n_,Hid->x_,intOf->A_
open Go renaming Value->m_,World->j_,strKeys->MZ,undef->q_
open Go.Value renaming agg->JI,int->e_,pointer->i_,slice->a_,string->g_,tuple->J_
open Go.World renaming cell?->E_
open Option renaming none->b_,some->c_
namespace Go.Proofs.YtaalbcfpacpgfaaGreat
open Go.RowKit Go.Lib Go.Vfs Go.Par Go.Typ Go.Shelf Go.Ix
def XF(w:j_)(px p:Nat)(st:St)(gen:Nat)(base log:List (List UInt8))(es:List En)(F H S:Nat->Prop):Prop:=
 ∃pj mb xs G,JF w pj p st gen base log F G/\dN w px pj mb xs S/\xs.map (·.e)=es/\(∀k,H k↔G k\/k=px\/k=mb)/\(∀k,S k->k<w.heap.size/\¬F k/\¬H k)/\(¬F px/\¬F mb/\¬G px/\¬G mb)
def vi(w w':j_)(p:Nat)(F':Nat->Prop)(r:St×Except Int (Nat×List (List UInt8)×List (List UInt8)))(e:Ending):Prop:=match r.2 with
 | .error n=>e=k_ (J_ #[i_ b_,e_ d_ n])
 | .ok x=>match replay [] (x.2.1++x.2.2)with
  |none=>e=k_ (J_ #[i_ b_,e_ d_ 200])
  |some es=>∃px H S,e=k_ (J_ #[i_ (c_ ⟨px,0,b_⟩),e_ d_ 0])/\XF w' px p r.1 x.1 x.2.1 x.2.2 es F' H S/\∀k,(H k\/S k)->w.heap.size<=k
def fS(w:j_)(p:Nat)(F:Nat->Prop)(r:St×Except Int (Nat×List (List UInt8)×List (List UInt8)))(e:Ending)(w':j_):Prop:=∃F',Jw w' p r.1 F'/\Kept F w w'/\aH w F F'/\vi w w' p F' r e
variable{ls ss:List (List UInt8)}{k:Nat}{n:Int}
theorem ou:∀(bs:List (List UInt8)) (es j:List En),replay es bs=c_ j->j.length<=es.length+bs.length
 |[],es,j,h=>by cases h;simp
 |b::bs,es,j,h=>by
  rw[replay]at h;cases hs:cL es b with
  |none=>rw[hs]at h;cases h
  |some t=>
   rw[hs]at h;have h1:=ou bs t j h;have h2:t.length<=es.length+1:=by
    unfold cL at hs;have D:∀s,(an aB s es).length<=es.length:=λs=>KX _ _
    have hp:∀(x:En) (l:List En),(dm aB x l).length=l.length+1:=by
     intro x l
     induction l with
     |nil=>rfl
     |cons y l G=>unfold dm;split<;>simp[G]
    split at hs
    ·cases hs
    ·cases hs;unfold aq;rw[hp];have:=D (aB ‹En›);omega
    cases hs;have:=D (aB ‹En›);omega
   rw[Jz];omega
structure ID(W2:j_)(px pj mb:Nat)(ls:List (List UInt8))(k:Nat)(W:j_):Prop where
 ex:∃es xs,replay [] (ls.take k)=c_ es/\xs.map (·.e)=es/\dN W px pj mb xs (λg=>W2.heap.size<=g/\g<W.heap.size)
 kept:Kept (·=mb) W2 W
theorem pA{j es:List En}(t:k<ls.length)(h:replay j (ls.take k)=c_ es)(hs:cL es (ls.getD k [])=b_):replay j ls=none:=by
 have e:ls=ls.take k++(ls.getD k []::ls.drop (k+1)):=by
  rw[s_,w_ t];simp
 rw[e,lU,h];simp only[replay,hs]
theorem kP{j es t:List En}(D:k<ls.length)(h:replay j (ls.take k)=c_ es)(hs:cL es (ls.getD k [])=c_ t):replay j (ls.take (k+1))=c_ t:=by
 rw[y_ D,pB h];rw[s_,w_ D]at hs;exact hs
theorem CT{s j:ByteArray}{t:Int}{A D:Option Addr}{m m' c G:Nat}(h:JI #[g_ s,e_ d_ n,a_ A m c]=JI #[g_ j,e_ d_ t,a_ D m' G]):s=j/\n=t/\A=D/\m=m'/\c=G:=by
 simpa using h
theorem rD{st:St}(h:(aW st).2=.error n):n≠0:=by
 unfold aW at h;split at h
 ·split at h
  ·injection h with h;omega
  split at h
  ·cases h
  rename_i h2;injection h with h;rw[<-h];exact h2
 rename_i h2;injection h with h;rw[<-h];exact h2
theorem jT(w:j_)(p:Nat)(st:St)(F:Nat->Prop)(hf:Jw w p st F){d:Nat}(hc:Calm st.files k d)(D:k<=1000)(hd:d<=2000000)(cB:st.aa<=9223372036854775807)
  (Z:∀x,(aW st).2=.ok x->x.2.1.length+x.2.2.length<=100000/\∀l∈x.2.1++x.2.2,l.length<=1000000):
  Calls h_ 15 #[i_ (c_ ⟨p,0,b_⟩)] w (fS w p F (aW st)):=by
 have cE:=Z_ (Bv w p st F hf hc D hd cB);have g3:=Z_ hf;obtain⟨r,hr⟩:=N_ (aW st);rw[<-hr]at cE Z;rw[<-hr];obtain⟨P,hP⟩:=N_ (fS w p F r);have cg:=Z_ hP;rw[<-hP];have e5:=Z_ Z;have cF:x_ (∀n,r.2=.error n->n≠0):=Z_ λn h=>rD (st:=st) (by rw[<-hr];exact h)
 have g4:=@run_makeMap h_;clear hP hr hf hc D hd cB Z;go_enter Tryz.func15,Tryz.ntmps15;go_wp2_with fail;refine cE.o.mono ?_;rintro e j ⟨F1,b0,b1,b2,O⟩;unfold zt at O;cases ad:r.2 with
 |error n=>
  rw[ad]at O;subst O;have g5:(n !=0)=true:=by have:=cF.o n ad;simpa using this
  have HE:x_ (P (k_ (J_ #[i_ b_,.int d_ n])) j):=Z_ (by
   rw[cg.o];exact⟨F1,b0,b1,b2,by unfold vi;rw[ad]⟩)
  clear b0 b1 b2;go_wp2;exact HE.o
 |ok x=>
  rw[ad]at O;obtain⟨pj,G,rfl,bn,c6⟩:=O;have Z:=e5.o x ad;have c7:=bn.fs.lt;have c8:=bn.js.lt;obtain⟨W1,bf⟩:=N_ ((j.alloc (.map #[] 0)).alloc (f_ #[i_ (c_ ⟨pj,0,b_⟩),.map (c_ j.heap.size)] 114));have b3:n_ j j W1:=by rw[bf];exact(B_.alloc L_ _).alloc (by simp) _
  have ch:W1.heap.size=j.heap.size+2:=by rw[bf];simp
  have cd:dN W1 (j+1) pj j [] (λ_=>False):=by
   refine⟨?_,?_,List.Pairwise.nil,by simp,by omega,λh=>h,λh=>h⟩
   ·rw[bf]
    have:=r_ (j.alloc (.map #[] 0)) (f_ #[i_ (c_ ⟨pj,0,b_⟩),.map (c_ j.heap.size)] 114);rwa[JQ]at this
   rw[bf];exact(World.ownsMap_made j h_ 9 lP).alloc _
  have df:=Z_ (ux (bn.below b3).js O_ O_ (λl hl=>(Z.2 l (Mg _ hl))) (λl hl=>(Z.2 l (Le _ hl))));have dv:=Z_ (bn.below b3);have eb:=Z_ b3;have ck:=Z_ ch;have cf:=Z_ cd;have bo:=Z_ c7;have bg:=Z_ c8;have e6:=Z_ c6;have e7:=Z_ b0;have bj:=Z_ b1;have ec:=Z_ b2;clear bn b3 ch cd c7 c8 c6 b0 b1 b2;go_wp2_with fail;rw[<-bf];clear bf;refine df.o.mono ?_;rintro e W2 ⟨v2,g6,rfl,b5⟩;obtain⟨ls,b6⟩:=N_ (x.2.1++x.2.2);rw[<-b6]at b5;have bk:=b5.below;have ch:=ck.o;have g7:=bk.size;have ak:=b5.rows;obtain⟨A,c,rfl,g8,ha,-⟩:=(ak.sub (S':=(·<W2.heap.size)) λb Y=>Y.2).open_;have e8:ls.length<=100000:=by rw[b6,p_];exact Z.1
  have cl:x_ (∀W,Kept (·=j.heap.size) W2 W->al (·<W.heap.size) W (a_ A ls.length c) ls):=Z_ λW D=>ak.ae λb Y=>⟨by have:=D.size;omega,D.block b Y.2 O_⟩
  have e9:x_ (ID W2 (j+1) pj j ls 0 W2):=Z_ ⟨⟨[],[],rfl,rfl,(cf.o.ae (bk.block _ O_) (bk.block _ O_) (λb Y=>Y.elim)).sub (λb Y=>Y.elim) ⟨by omega,by omega⟩⟩,Kept.refl _ _⟩;have ee:x_ (∀W',Kept (·=j.heap.size) j W'->Jw W' p r.1 F1/\Kept F w W'):=Z_ λW' D=>by
   have hz:=bj.o.size;refine⟨e7.o.ae λg hg=>D.block g (bo.o g hg) (λe=>by have:=bo.o g hg;omega),⟨D.os.trans bj.o.os,D.tape.trans bj.o.tape,D.output.trans bj.o.output,Kj hz D.size,λg hg hn=>?_⟩⟩;exact(D.block g O_ O_).trans (bj.o.block g hg hn)
  have eg:x_ (∀W',Kept (·=j.heap.size) W2 W'->Kept (·=j.heap.size) j W'):=Z_ λW' D=>(Kept.ar (eb.o.trans (bk.mono O_))).trans' D
  have en:=Z_ bk;have eo:=Z_ b6;have hh:=Z_ e8;clear b5 ak bk b6 cf df;go_wp2
  go_loopw [27] (λiv W=>∃k:Nat,k<=ls.length/\iv=.int d_ k/\x_ (ID W2 (j+1) pj j ls k W)) (λiv _=>ls.length - (A_ iv).toNat)
  case atStart=>exact⟨0,by omega,rfl,e9⟩
  obtain⟨k,D,rfl,HI⟩:=hrel;by_cases cb:k<ls.length
  ·obtain⟨es,xs,J,U,bp⟩:=HI.o.ex
   obtain⟨A',c',e,_,_,HR⟩:=(cl.o wr HI.o.kept).open_;injection e with eA _ eC;subst eA eC;obtain⟨b,off,Au,cu,rfl,Y,cm,cp⟩:=HR.o wr B_ k cb;have a2:=Z_ J;have bt:=Z_ U;have e0:=Z_ bp;obtain⟨L,hL⟩:=N_ (ls.getD k []);rw[<-hL]at cm cp;have HL:=Z_ hL;have fb:=Z_ (yO L _ wr cp);clear J U bp cp hL HR;go_wp2_with fail;refine fb.o.mono ?_;rintro e w3 ⟨bm,s,n,A3,m3,c3,there,ok,rfl,cc,ba⟩;have fi:=bm.size;have bx:Kept (·=j.heap.size) W2 w3:=HI.o.kept.trans' (Kept.ar bm);cases K:de L with
   |none=>
    have fr:=cc K;subst fr;have HE:x_ (∀o,P (k_ (J_ #[i_ b_,.int d_ 200])) (w3.alloc o)):=Z_ λo=>by
     rw[cg.o];obtain⟨g1,g2⟩:=ee.o _ (eg.o _ (bx.alloc o));refine⟨F1,g1,g2,ec.o,?_⟩;unfold vi;rw[ad];simp only;rw[<-eo.o,pA cb a2.o (by rw[<-HL.o];unfold cL;rw[K])];trivial
    clear cc ba bm bx;go_wp2;exact HE.o _
   |some ET=>
    obtain⟨E,t⟩:=ET;obtain⟨rfl,rfl,bb⟩:=ba E t K;have gy:E.uri.size<=64:=(wS K).1.2;have cr:=bb;obtain⟨A9,c9,ev,ho,-⟩:=cr;obtain⟨rfl,rfl,rfl,rfl,rfl⟩:=CT ev;obtain⟨M,av⟩:=N_ (w3.alloc (f_ #[.string E.uri,.int d_ E.bu,a_ A3 E.aI.length c3] 55));have bB:n_ w3 w3 M:=by rw[av];exact B_.alloc L_ _
    have hq:M.heap.size=w3.heap.size+1:=by rw[av];simp
    have V:n_ wr wr M:=bm.trans (bB.mono fi);have fz:=HI.o.kept.size;have e1:=ck.o;have e2:=en.o.size;have bd:M.heap[w3.heap.size]?=c_ (f_ #[.string E.uri,.int d_ E.bu,a_ A3 E.aI.length c3] 55 (0,0)):=by rw[av];exact r_ _ _
    have e3:=e0.o.lt;have I:dN M.drew (j+1) pj j xs (λg=>W2.heap.size<=g/\g<M.heap.size):=by
     have h1:=e0.o.ae (w':=M.drew) (V.block _ e3.1) (V.block _ e3.2) (λb Y=>V.block b Y.2);exact h1.sub (λb Y=>⟨Y.1,by omega⟩) ⟨by omega,by omega⟩
    have a1:bW (λg=>W2.heap.size<=g/\g<M.heap.size) M.drew (JI #[.string E.uri,.int d_ E.bu,a_ A3 E.aI.length c3]) E:=bb.ae λg hg=>⟨⟨by omega,by omega⟩,bB.block g hg.2⟩
    have ht:xs.length<=100000:=by
     have h1:=ou _ _ _ a2.o;rw[<-bt.o,KL,JN]at h1;simp at h1;omega
    have e4:x_ (Kept (·=j.heap.size) W2 M.drew):=Z_ ((bx.trans' (Kept.ar bB)).drew);cases there with
    |true=>
     obtain⟨VV,ct⟩:∃VV:m_,VV=JI #[.string E.uri,.int d_ E.bu,a_ A3 E.aI.length c3]:=⟨_,rfl⟩;obtain⟨w5,bN,X,bO,gi⟩:=I.put O_ ⟨E,VV⟩ (by rw[ct];exact a1) (by show E.uri.size<=_;omega);have bR:ID W2 (j+1) pj j ls (k+1) w5:=by
      refine⟨⟨aq aB E es,aq dA ⟨E,VV⟩ xs,kP cb a2.o (by rw[<-HL.o];unfold cL;rw[K]),by rw[ti,bt.o],?_⟩,e4.o.trans' bO⟩;have gn:M.drew.heap.size=M.heap.size:=rfl;exact X.sub (λb Y=>⟨Y.1,by omega⟩) ⟨by omega,by omega⟩
     have cv:=Z_ bR;have gz:=Z_ K;have g0:=Z_ I;obtain⟨y0,y1,y2⟩:=aR (W:=M.drew) bd;have p1:M.drew.cell? ⟨j+1,1,b_⟩=c_ (.map (c_ j.heap.size)):=by simp[E_,I.head]
     clear cc ba bm bx bb a1 I X bO bR bB V bd cm;dsimp only at bN;rw[ct]at bN;clear ev ct K;go_wp2_with fail;rw[<-av];clear av
     go_region
     go_wp2;go_roundw
     case rel=>exact⟨k+1,by omega,by go_num,cv.o⟩
     simp[A_];omega
    |false=>
     obtain⟨w5,bN,X,bO,gi⟩:=I.del E.uri O_ 0;have bR:ID W2 (j+1) pj j ls (k+1) w5:=by
      refine⟨⟨an aB (aB E) es,an dA E.uri.data.toList xs,kP cb a2.o (by rw[<-HL.o];unfold cL;rw[K]),by rw[th,bt.o];rfl,?_⟩,e4.o.trans' bO⟩;have gn:M.drew.heap.size=M.heap.size:=rfl;exact X.sub (λb Y=>⟨Y.1,by omega⟩) ⟨by omega,by omega⟩
     have cv:=Z_ bR;obtain⟨y0,y1,y2⟩:=aR (W:=M.drew) bd;have p1:M.drew.cell? ⟨j+1,1,b_⟩=c_ (.map (c_ j.heap.size)):=by simp[E_,I.head]
     clear ev K;clear cc ba bm bx bb a1 I X bO bR bB V bd cm;go_wp2_with fail;rw[<-av];clear av
     go_region
     go_wp2;go_roundw
     case rel=>exact⟨k+1,by omega,by go_num,cv.o⟩
     simp[A_];omega
  have gp:k=ls.length:=by omega
  subst gp;obtain⟨es,xs,J,U,bp⟩:=HI.o.ex;rw[JO]at J;have cx:=eg.o wr HI.o.kept;obtain⟨g1,g2⟩:=ee.o wr cx;have fz:=HI.o.kept.size;have e1:=ck.o;have e2:=en.o.size;have hv:=bj.o.size;have HE:x_ (P (k_ (J_ #[i_ (c_ ⟨j+1,0,b_⟩),.int d_ 0])) wr):=Z_ (by
   rw[cg.o];refine⟨F1,g1,g2,ec.o,?_⟩;unfold vi;rw[ad];simp only;rw[<-eo.o,J];refine⟨j+1,λk=>G k\/k=j.heap.size+1\/k=j.heap.size,λg=>W2.heap.size<=g/\g<wr.heap.size,rfl,⟨pj,j.heap.size,xs,G,⟨g1,?_,dv.o.apart⟩,bp,U,λk=>Iff.rfl,λk D=>⟨D.2,λh=>?_,λh=>?_⟩,λh=>?_,λh=>?_,λh=>?_,λh=>?_⟩,λk D=>?_⟩
   ·have gv:JS j pj p x.1 x.2.1 x.2.2 G:=dv.o.js.block λk D=>(eb.o.block k (bg.o k D)).symm
    exact gv.block λk D=>cx.block k (bg.o k D) (λe=>by have:=bg.o k D;omega)
   ·have:=bo.o k h;omega
   ·rcases h with h|h|h
    ·have:=bg.o k h;omega
    ·omega
    omega
   ·have:=bo.o _ h;omega
   ·have:=bo.o _ h;omega
   ·have:=bg.o _ h;omega
   ·have:=bg.o _ h;omega
   rcases D with(h|h|h)|h
   ·exact e6.o k h
   ·omega
   ·omega
   omega)
  clear J U bp cx g1 g2;go_wp2;exact HE.o
open Go.RowKit Go.Maps Go.Sort Go.Shelf
theorem BA(j:Option Nat)(W:j_):CallsIn JK 5 h_ 106 #[.map j] W λe w'=>e=k_ (.func (.func 134) #[] #[i_ (c_ ⟨W,0,b_⟩)])/\w'=W.alloc (f_ #[.map j] 112):=
 AnyZ.keys_in Tryz.Ac JK 5 trivial rfl j W
theorem xE{H:Type}(b K:Nat)(D:DataW H)(R:m_->Option (DataW H×List MemPlace))(w:j_)(t:w.ownsMap h_ 9 R b K D)(G:MV D<=maxLen)(j:MV D*16<=140737488355328):
  CallsIn JK 5 h_ 105 #[.func (.func 134) #[] #[i_ (c_ ⟨w,0,b_⟩)]] (w.alloc (f_ #[.map (c_ b)] 112)) λe w'=>∃(v:m_) (ss:List (List UInt8)),e=k_ v/\ss.Perm (MZ D)/\
   w'.ownsRow (w.alloc (f_ #[.map (c_ b)] 112)).heap.size 9 1 v ss.length ((ss.mergeSort (λx y=>decide (x<=y))).map M9)/\(v=a_ b_ 0 0↔ss=[])/\n_ (w.alloc (f_ #[.map (c_ b)] 112)).heap.size (w.alloc (f_ #[.map (c_ b)] 112)) w':=by
 have J:=t.lt;have I:SeqGives JK 2 h_ 134 #[i_ (c_ ⟨w,0,b_⟩)] M9 (λss=>ss.Perm (MZ D)) (MV D) (w.alloc (f_ #[.map (c_ b)] 112)):=
  AnyZ.keys_gives (ρ:=Tryz.oW) {Tryz.Ac with} JK _ trivial rfl O_ w b K D _ (by simp) (by simp) (by
   obtain⟨es,clock,M,O,hs,U⟩:=t;exact⟨es,clock,(z_ _ _ b J).trans M,O,hs,U⟩)
 exact AnyZ.sorted_in Tryz.tB JK 5 trivial trivial trivial trivial rfl O_ (Ed _) (enters_of Tryz.func133 K_ rfl) 134 #[i_ (c_ ⟨w,0,b_⟩)] trivial (enters_of Tryz.func134 K_ rfl) _ _ G j _ I
attribute [local go_sem] Oper.semAt_some
theorem uT{xs:List gY}(h:cQ dA xs)(hp:ss.Perm (xs.map dA)):ss.mergeSort (λx y=>decide (x<=y))=xs.map dA:=by
 apply List.Perm.eq_of_pairwise (le:=λa b:List UInt8=>a<=b)
 ·intro a b _ _ h1 h2;exact List.le_antisymm h1 h2
 ·have:=List.pairwise_mergeSort (le:=λx y:List UInt8=>decide (x<=y)) (λa b c h1 h2=>by simp at h1 h2⊢;exact List.le_trans h1 h2) (λa b=>by simp;exact List.le_total a b) ss
  exact this.imp (λh=>by simpa using h)
 ·rw[MH]
  exact h.imp (λ{a b} j=>List.not_lt.1 (λt=>by
   have h1:=jr.1 j;have h2:=jr.2 t;rw[fC j]at h2;cases h2))
 exact(List.mergeSort_perm ss _).trans hp
theorem uV(xs:List gY):MZ (iq xs)=xs.map dA:=by
 unfold MZ iq;simp only[Mv];rfl
theorem Ds{G:j_}{v:m_}{xs:List gY}{base:Nat}(h:cQ dA xs)(hS:ss.Perm (MZ (iq xs)))(j:G.ownsRow base 9 1 v ss.length ((ss.mergeSort (λx y=>decide (x<=y))).map M9)):
  ∃A c,v=a_ A xs.length c/\c<=9223372036854775807/\xs.length<=c/\(0<xs.length->∃g cur,A=c_ ⟨g,0,b_⟩/\base<=g/\G.heap[g]?=c_ (f_ cur 9 (0,0))/\∀k (D:k<xs.length),cur[k]?=c_ (g_ ((xs[k]'D).e.uri))):=by
 rw[uV]at hS;have I:ss.length=xs.length:=by have:=hS.length_eq;simpa using this
 rw[uT h hS]at j;rcases j.2 with⟨h1,h2⟩|⟨g,cap,cur,h1,h2,J,O,K,U,M⟩
 ·have h0:xs.length=0:=by omega
  exact⟨b_,0,by rw[h1,h0],by omega,by omega,λhp=>by omega⟩
 refine⟨_,cap,by rw[h1,I],by simpa[maxLen]using K,by omega,λ_=>⟨g,cur,rfl,h2,J,λk D=>?_⟩⟩;have t:=J7 (·[k]?) M;simp only[Mb]at t;rw[G_ O_]at t;rw[MF]at t;rw[t];simp[D,dA,aB,me]
abbrev kd (xs:List gY):={x:gY//x∈xs}
def ER{xs:List gY}(x:kd xs):Array m_:=#[x.1.v]
theorem tW(xs:List gY)(k:Nat)(j:k<xs.length):xs.attach.take (k+1)=xs.attach.take k++[⟨xs[k],JB j⟩]:=by
 rw[y_ (by simpa using j)];simp
theorem sP(w:j_)(G pj I:Nat)(xs:List gY)(S:Nat->Prop)(h:dN w G pj I xs S)(cr:xs.length<=100000)(b2:∀x∈xs,x.e.uri.size<=64)(M n₀:Nat)(b3:M<n₀)(ct:n₀<=w)(hc:w.heap[M]?=c_ (f_ #[i_ (c_ ⟨G,0,b_⟩)] 40 (0,0)))
  (hF:G<n₀/\I<n₀) (Ex:j_->Nat->Prop) (bb:∀W,n_ w w W->∀k,Ex W k->k<w.heap.size/\k≠M/\k≠G/\k≠I):
  SeqStopsK JK 6 h_ 104 #[i_ (c_ ⟨M,0,b_⟩)] (ER (xs:=xs)) (xU n₀ Ex) (λys=>ys=xs.attach) (λpre=>pre<+:xs.attach) xs.length w:=by
 intro l J Jx W hW hJ cu hY h0;have j:=h.lt;have ak:W.heap[G]?=c_ (f_ #[i_ (c_ ⟨pj,0,b_⟩),.map (c_ I)] 114 (0,0)):=(hW.block G j.1).trans h.head;have bd:W.ownsMap h_ 9 lP I xs.length (iq xs):=dF h.map (hW.block I j.2);have av:W.heap[M]?=c_ (f_ #[i_ (c_ ⟨G,0,b_⟩)] 40 (0,0)):=(hW.block M O_).trans hc;have cB:W.cell? ⟨M,0,b_⟩=c_ (i_ (c_ ⟨G,0,b_⟩)):=by simp[E_,av]
 have cp:W.cell? ⟨G,1,b_⟩=c_ (.map (c_ I)):=by simp[E_,ak]
 have bf:MV (iq xs)=xs.length:=by unfold iq;simp[Maps.size_eq]
 have cv:JK.fn 106:=trivial;have cx:JK.fn 105:=trivial;have bg:=Z_ h.rising;have cE:=Z_ (show G≠I from h.pm);have b5:=Z_ ak;have bj:=Z_ bd;have bk:=Z_ bf;have HW:=Z_ hW;have b6:=Z_ av;have O:=Z_ bb;have bm:=Z_ hF;have HH:=Z_ h;clear ak bd bf hW av bb hF hc h j;refine callsIn_of_wp Tryz.func104 rfl trivial ?_ rfl;simp only[Tryz.ntmps104,KB,Jz,JP,Nat.reduceAdd,Nat.reduceSub,KF,KG,KP,KK,Kl,Ka];gi_wp2_with (first
  |(gi_at_call 106;refine(BA _ _).mono ?_;rintro e w' ⟨rfl,rfl⟩)
  |(gi_at_call 105;refine(xE I xs.length (iq xs) lP W bj.o (by rw[bk.o];unfold maxLen;omega) (by rw[bk.o];omega)).mono ?_;rintro e U ⟨v,ss,rfl,hS,X,bn,hb⟩;obtain⟨A1,c1,rfl,cF,c6,Y⟩:=Ds bg.o hS X;clear hS X bn))
 have t:n_ W W U:=((JG _ W).alloc L_ _).trans (hb.mono (by simp));have cb:J [] U:=hJ _ _ _ b_ h0 ⟨t.os,t.tape,t.output,t.size,λk hk _=>t.block k hk⟩ (λr e=>by cases e);have a1:=Z_ t;have bo:=Z_ Y;clear hb t Y cB cp
 gi_loopw [12] (λi wr=>∃k:Nat,k<=xs.length/\i=.int d_ k/\xU n₀ Ex U wr/\J (xs.attach.take k) wr) (λi _=>xs.length - (intOf i).toNat)
 case atStart=>exact⟨0,by omega,rfl,wB _ _ _,cb⟩
 obtain⟨k,hk,rfl,K,a2⟩:=hrel;have cc:=HW.o.size;have cm:=a1.o.size;have D:n_ w w U:=HW.o.trans (a1.o.mono cc);by_cases j:k<xs.length
 ·obtain⟨g,cur,rfl,hg,bp,Z⟩:=bo.o O_
  have hold:∀i o,i<n₀->W.heap[i]?=c_ o->¬Ex U i->wr.heap[i]?=c_ o:=λi o hi ho hn=>K.2.1 i o ((a1.o.block i O_).trans ho) (.inl hi) hn
  have bt:=hold M _ b3 b6.o (λhe=>(O.o U D _ he).2.1 rfl);have bx:=hold G _ bm.o.1 b5.o (λhe=>(O.o U D _ he).2.2.1 rfl);have bB:wr.ownsMap h_ 9 lP I xs.length (iq xs):=by
   obtain⟨es,clock,hm,r⟩:=bj.o;exact⟨es,clock,hold I _ bm.o.2 hm (λhe=>(O.o U D _ he).2.2.2 rfl),r⟩
  have bN:wr.heap[g]?=c_ (f_ cur 9 (0,0)):=K.2.1 g _ bp (.inr rfl) (λhe=>by have:=(O.o U D _ he).1;simp at hg;omega);obtain⟨x,hx⟩:=N_ (xs[k]);have V:x∈xs:=by rw[hx];exact JB j
  have ba:=Z k j;rw[<-hx]at ba;have cB:wr.cell? ⟨M,0,b_⟩=c_ (i_ (c_ ⟨G,0,b_⟩)):=by simp[E_,bt]
  have cp:wr.cell? ⟨G,1,b_⟩=c_ (.map (c_ I)):=by simp[E_,bx]
  have cg:wr.cell? ⟨g,k,b_⟩=c_ (.string x.e.uri):=by simp[E_,bN,ba]
  have cd:(Instr.lookup 112 (.map (c_ I)) (.string x.e.uri) false).run h_ wr=.ok x.v wr:=by
   obtain⟨v,ps,bO,hv⟩:=bB.lookup rY Mw (tO _) (zd:=.held sg) (zp:=[]) rfl (iw x.e.uri (by have:=b2 x V;omega));rw[bO];rw[zM]at hv;rw[wm hv];have:aj dA (dA x) xs=c_ x:=bg.o.aj V;unfold Cz;rw[show x.e.uri.data.toList=dA x from rfl,this]
  have bR:(xs.attach.take k).length<xs.length:=by simp;omega
  obtain⟨fn,tmps,assign,body,hy,hR⟩:=hY (xs.attach.take k) ⟨x,V⟩ wr a2 bR;dsimp only[ER]at hy;have b0:x_ (xs.attach.take (k+1)=xs.attach.take k++[⟨x,V⟩]):=Z_ (by rw[tW xs k j];congr 2;exact Subtype.ext hx.symm);have cf:=Z_ K;clear K;clear hold bt bx bB bN Z ba hx bp;gi_wp2;refine hR.mono ?_;rintro e W3 (⟨rfl,b1,ch⟩|⟨rfl,ad⟩)
  ·rw[<-b0.o]at b1
   gi_wp2;go_roundw
   case rel=>exact⟨k+1,by omega,by go_num,rk cf.o ch,b1⟩
   simp[intOf];omega
  rw[<-b0.o]at ad;gi_wp2;refine C_ (Mh rfl _ _ _) rfl ?_;exact⟨⟨_,rfl⟩,.inr ⟨_,List.take_prefix _ _,ad⟩⟩
 have ck:k=xs.length:=by omega
 have cl:J xs.attach wr:=by rw[ck]at a2;rwa[Kq (by simp)]at a2
 clear K;gi_wp2
 go_end0
 exact⟨⟨_,rfl⟩,.inl ⟨_,rfl,cl⟩⟩
theorem zA(j:Nat)(w:j_):Calls h_ 60 #[i_ (c_ ⟨j,0,b_⟩)] w λe w'=>
  e=k_ (.func (.func 104) #[] #[i_ (c_ ⟨w,0,b_⟩)])/\w.alloc (f_ #[i_ (c_ ⟨j,0,b_⟩)] 40)=w':=by
 go_enter Tryz.func60,Tryz.ntmps60;go_wp2;go_ret;exact⟨rfl,rfl⟩
end Go.Proofs.YtaalbcfpacpgfaaGreat
namespace Go.Ix
open Go.RowKit Go.Lib Go.Vfs Go.Par Go.Typ
def FY(W:j_)(b:Nat):Prop:=∃cs t fz,W.heap[b]?=c_ (f_ cs t fz)
variable{v:m_}{S S':Nat->Prop}{w w':j_}{L B:Nat}{us:List m_}
theorem C0{W:j_}{b o:Nat}(h:W.cell? ⟨b,o,b_⟩=c_ v):FY W b:=by
 unfold E_ at h;split at h
 ·rename_i cs t D j;exact⟨_,_,_,j⟩
 cases h
def eW(S:Nat->Prop)(W:j_)(v:m_)(x:En):Prop:=bW (λb=>S b/\gN W b) W v x
theorem eW.ae{x:En}(h:eW S w v x)(t:∀b,S b->S' b/\w'.heap[b]?=w.heap[b]?):eW S' w' v x:=
 bW.ae h λb j=>⟨⟨(t b j.1).1,j.2.ae (t b j.1).2⟩,(t b j.1).2⟩
def jn(S:Nat->Prop)(W:j_)(v:m_)(xs:List En):Prop:=aS (λb=>S b/\gN W b) W v xs
theorem jn.ae{x:List En}(h:jn S w v x)(t:∀b,S b->S' b/\w'.heap[b]?=w.heap[b]?):jn S' w' v x:=
 aS.ae h λb j=>⟨⟨(t b j.1).1,j.2.ae (t b j.1).2⟩,(t b j.1).2⟩
theorem jn.at_{x:List En}(h:jn S w v x):aS S w v x:=aS.ae h λ_ j=>⟨j.1,rfl⟩
theorem _root_.Go.Typ.az.FJ{e:Nat}{xs:List En}(h:az e 3 eW L B w xs v us):jn (λg=>(L<=g\/B<=g)/\g<w.heap.size) w v xs:=by
 have t:∀g,v.ownBlock=c_ g->gN w g:=λg e=>h.clean e
 obtain⟨A,c,rfl,hc,hm⟩:=h.form;refine⟨A,c,rfl,hc,hm,λi=>us.getD i (.bool false),λh0=>?_,λi hi=>eW.ae (h.each i hi) λg I=>⟨⟨.inl I.1,I.2.1⟩,rfl⟩⟩;obtain⟨g,K,e,M,D,G⟩:=h.cells h0;injection e with J _ _;refine⟨g,0,J,⟨⟨.inr M,D⟩,t g (by rw[J];rfl)⟩,λi hi j hj=>?_⟩;rw[G i hi j hj];show _=c_ (Gl (us.getD i (.bool false)) j);obtain⟨O,K,e,_⟩:=h.each i hi;rw[e];have:j=0\/j=1\/j=2:=by omega
 rcases this with rfl|rfl|rfl<;>rfl
theorem D3{t:Nat}{xs:List En}(h:az t 3 eW L B w xs v us){row:Option Nat}(I:w.grownBy w' row)(hr:∀r,row=c_ r->∃o:Obj,w.heap[r]?=c_ o/\o.isCells=false):az t 3 eW L B w' xs v us:=by
 have key:∀b,b<w.heap.size->FY w b->w'.heap[b]?=w.heap[b]?:=λb j ⟨cs,t,U,hc⟩=>I.block b j λe=>by
  obtain⟨o,J,hn⟩:=hr b e.symm;rw[hc]at J;cases J;cases hn
 refine⟨h.len,aO h.own λg e=>?_,h.size,λi hi=>?_⟩
 ·rcases h.own.2 with⟨D,_⟩|⟨V,cap,cur,D,_,K,_⟩
  ·rw[D]at e;cases e
  rw[D]at e;cases e;exact key _ (ao K) ⟨_,_,_,K⟩
 have h1:bW _ w _ _:=h.each i hi;refine bW.ae h1 λb j=>?_
 obtain⟨cs,O,G⟩:=j.2;have M:=key b j.1.2.1 ⟨cs,O,_,G⟩;exact⟨⟨⟨j.1.1,Kc j.1.2.1 I.size,j.1.2.2⟩,j.2.ae M⟩,M⟩
end Go.Ix
namespace Go.Proofs.YtaalbcfpacpgfaaGreat
open Go.RowKit Go.Lib Go.Vfs Go.Par Go.Typ Go.Shelf Go.Ix
attribute [local go_sem] Oper.semAt_some
variable{w W W':j_}
theorem EP:oJ h_ 45 55 3:=mS (b:=48) (z:=JI #[g_ ⟨#[]⟩,e_ d_ 0,a_ b_ 0 0]) Tryz.underlying45 K_ (by decide) rfl (by decide)
theorem uB(s:ByteArray)(k:Int)(A:Option Addr)(n c:Nat):∀u∈[g_ s,e_ d_ k,a_ A n c],u.oneCell'=true:=by
 intro u hu;simp at hu;rcases hu with rfl|rfl|rfl<;>rfl
structure EI(w:j_)(pre:List En)(W:j_):Prop where
 row:∃v us,Boxed W w.heap.size 45 v/\az 55 3 eW (w.heap.size+2) (w.heap.size+2) W pre v us
 below:n_ w.heap.size w W
 size:w.heap.size+2<=W.heap.size
theorem EI.walk{pre:List En}(h:EI w pre W){row:Option Nat}(j:W.grownBy W' row)(hr:∀r,row=c_ r->w.heap.size+2<=r/\∃o:Obj,W.heap[r]?=c_ o/\o.isCells=false):EI w pre W':=by
 obtain⟨v,us,h1,h2⟩:=h.row;have G:=h.size;have t:=h.below;refine⟨⟨v,us,h1.kept j (λe=>by have:=(hr _ e.symm).1;omega),D3 h2 j (λr e=>(hr r e).2)⟩,⟨j.os.trans t.os,j.tape.trans t.tape,j.output.trans t.output,Kj t.size j.size,λk D=>(j.block k O_ (λe=>by have:=(hr k e.symm).1;omega)).trans (t.block k D)⟩,by have:=j.size;omega⟩
theorem EI.go{pre:List En}(h:EI w pre W)(j:n_ W W W'):EI w pre W':=by
 obtain⟨v,us,h1,h2⟩:=h.row;have t:=h.size;refine⟨⟨v,us,(j.block _ O_).trans h1,az.below (R:=eW) eW.ae h2 j⟩,h.below.trans (j.mono O_),by have:=j.size;omega⟩
def IB(b:Nat)(W:j_)(k:Nat):Prop:=k=b\/∃v,W.cell? ⟨b,0,b_⟩=c_ v/\v.ownBlock=c_ k
theorem EI.next{G w3:j_}{pre:List En}{v v3:m_}{us:List m_}{E:En}{A2:Option Addr}{c2:Nat}{o:Obj}{n₀:Nat}(U:n₀=w.heap.size+2)(h:EI w pre W)(V:Boxed W w 45 v)(hr:az 55 3 eW (w+2) (w+2) W pre v us)(I:n_ W W G)
  (hx:iG (λg=>W.heap.size<=g/\g<G.heap.size) G (a_ A2 E.aI.length c2) E.aI) (hu:E.uri.size<=9223372036854775807) (M:w3.ownsRow (w+2) 55 3 v3 (pre.length+1) (us.flatMap cX++[g_ E.uri,e_ d_ E.bu,a_ A2 E.aI.length c2]))
  (t:(G.alloc o).grownBy w3 v.ownBlock) (O:v3.ownBlock=v.ownBlock\/v3.ownBlock=c_ (G.alloc o).heap.size):
  KeepsFrom (w+2) W (w3.setCell ⟨w,0,b_⟩ v3)/\xU n₀ (IB w) W (w3.setCell ⟨w,0,b_⟩ v3)/\EI w (pre++[E]) (w3.setCell ⟨w,0,b_⟩ v3):=by
 subst U;have hz:=h.size;have ad:=I.size;have X:=t.size;simp only[JQ]at X;have J:=hr.own.lt;have same:∀k,k<W.heap.size->k≠w.heap.size->v.ownBlock≠c_ k->(w3.setCell ⟨w,0,b_⟩ v3).heap[k]?=W.heap[k]?:=λk j h1 h2=>by
  rw[ab h1,t.block k (by simp;omega) (λe=>h2 e.symm),z_ _ _ _ O_];exact I.block k j
 have ak:(w3.setCell ⟨w,0,b_⟩ v3).heap.size=w3.heap.size:=by simp[World.setCell]
 have D:Boxed w3 w 45 v:=by
  have h1:Boxed G w 45 v:=(I.block _ O_).trans V;exact(h1.alloc o).kept t (λe=>by have:=(J _ e.symm).1;omega)
 have Y:=az.below (R:=eW) eW.ae hr I;have K:az 55 3 eW (w+2) (w+2) w3 (pre++[E]) v3 (us++[eV E A2 c2]):=
  az.next (R:=eW) eW.ae Y (u:=eV E A2 c2) (x:=E) (S:=λg=>W.heap.size<=g/\g<G.heap.size) ⟨A2,c2,rfl,hu,hx⟩ (λg t=>⟨by omega,t.2,λe=>by have:=(J g e).2;omega⟩) rfl o M t O
 refine⟨⟨by omega,λk ob hB j hc=>?_⟩,⟨by omega,λk ob j av hn=>?_,λk j=>?_⟩,⟨v3,us++[eV E A2 c2],D.set v3,?_⟩,?_,by omega⟩
 ·refine(same k (ao j) O_ (λe=>?_)).trans j
  rcases hr.own.2 with⟨Z,_⟩|⟨g,cap,cur,Z,_,hh,_⟩
  ·rw[Z]at e;cases e
  rw[Z]at e;cases e;rw[hh]at j;cases j;cases hc
 ·exact(same k (ao j) (λe=>hn (.inl e)) (λe=>hn (.inr ⟨v,V.cell,e⟩))).trans j
 ·rcases j with rfl|⟨u,hu,j⟩
  ·exact .inl (.inl rfl)
  rw[(D.set v3).cell]at hu;cases hu;rcases O with h1|h1
  ·rw[h1]at j;exact .inl (.inr ⟨v,V.cell,j⟩)
  rw[h1]at j;cases j;right;simp;omega
 ·exact az.oL (R:=eW) eW.ae K (Lo:=w.heap.size+2) L_ L_ (λg h1 h2=>ab (a:=⟨w,0,b_⟩) (show g≠w.heap.size by omega)) O_
 refine⟨t.os.trans (I.os.trans h.below.os),t.tape.trans (I.tape.trans h.below.tape),t.output.trans (I.output.trans h.below.output),by have:=h.below.size;omega,λk j=>?_⟩;exact(same k O_ O_ (λe=>by have:=(J k e).1;omega)).trans (h.below.block k j)
def Jp(w:j_){xs:List gY}(T:kd xs->Nat->Array m_)(x:kd xs)(a':Act)(W:j_):Prop:=
 ∃bx A c,w.heap.size+2<=bx/\x.1.v=JI #[g_ x.1.e.uri,e_ d_ x.1.e.bu,a_ A x.1.e.aI.length c]/\bA (·<w.heap.size) w (a_ A x.1.e.aI.length c) x.1.e.aI/\a'={tmps:=T x bx,defers:=[]}/\
  W.heap[bx]?=c_ (f_ #[g_ x.1.e.uri,e_ d_ x.1.e.bu,a_ A x.1.e.aI.length c] 55 (0,0))/\∃v,Boxed W w.heap.size 45 v/\v.ownBlock≠c_ bx
theorem sy(w:j_)(px pj mb:Nat)(xs:List gY)(S:Nat->Prop)(h:dN w px pj mb xs S)(hS:∀k,S k->k<w.heap.size)(ck:Ix.Good (xs.map (·.e)))(eA:xs.length<=100000):
  Calls h_ 18 #[i_ (c_ ⟨px,0,b_⟩)] w λe w'=>∃v,e=k_ v/\jn (λg=>w.heap.size<=g/\g<w'.heap.size) w' v (xs.map (·.e))/\n_ w w w':=by
 have cm:=h.lt;obtain⟨W0,bd⟩:=N_ ((w.alloc (f_ #[a_ b_ 0 0] 45)).alloc (f_ #[i_ (c_ ⟨px,0,b_⟩)] 40));have cE:W0.heap.size=w.heap.size+2:=by rw[bd];simp
 have bk:n_ w w W0:=by rw[bd];exact(ah w _).alloc (by simp) _
 have k0:Boxed W0 w 45 (a_ b_ 0 0):=by
  rw[bd];exact(Boxed.new w 45 (a_ b_ 0 0)).alloc _
 have k1:W0.heap[w.heap.size+1]?=c_ (f_ #[i_ (c_ ⟨px,0,b_⟩)] 40 (0,0)):=by
  rw[bd];have:=r_ (w.alloc (f_ #[a_ b_ 0 0] 45)) (f_ #[i_ (c_ ⟨px,0,b_⟩)] 40);simpa using this
 have cc:dN W0 px pj mb xs S:=h.ae (bk.block _ cm.1) (bk.block _ cm.2) (λb hb=>bk.block b (hS b hb));have cd:∀x∈xs,x.e.uri.size<=64:=λx hx=>(eP (ck.ok x.e (Kw hx))).2
 have cF:=Z_ (sP W0 px pj mb xs S cc eA cd (w+1) (w+2) O_ O_ k1 O_ (IB w) (λW hW k hk=>by
  rcases hk with rfl|⟨v,hv,hk⟩
  ·exact⟨by omega,by omega,by omega,by omega⟩
  rw[hW.cell (p:=⟨w,0,b_⟩) (by show w.heap.size<W0.heap.size;omega),k0.cell]at hv;cases hv;simp[Value.ownBlock]at hk))
 have c6:x_ (∀x∈xs,∃A c,x.v=JI #[g_ x.e.uri,e_ d_ x.e.bu,a_ A x.e.aI.length c]/\bA (·<w.heap.size) w (a_ A x.e.aI.length c) x.e.aI):=Z_ λx hx=>by
  obtain⟨A,c,ev,-,he⟩:=h.yp x hx;exact⟨A,c,ev,he.ae λg hg=>⟨hS g hg,rfl⟩⟩
 have c7:x_ (∀x∈xs,gF x.e=true):=Z_ λx hx=>ck.ok x.e (Kw hx)
 have eC:x_ (EI w [] W0):=Z_ ⟨⟨_,[],k0,az.nil W0⟩,bk,by omega⟩;have bm:=Z_ cE;have bb:=Z_ cE;clear k0 k1 cc h hS ck cm bk cd;refine(Kg (n:=7)).1 ?_;refine callsIn_of_wp_marks Tryz.func18 rfl trivial ?_ rfl;simp only[Tryz.ntmps18,KB,Jz,JP,Nat.reduceAdd,Nat.reduceSub,KF,KG,KP,KK,Kl,Ka];gi_wp2_with (refine⟨trivial,?_⟩;gi_at_call 60;refine(Kg.2 (zA px _)).mono ?_;rintro e w1 ⟨rfl,rfl⟩)
 rw[<-bd];clear bd;refine wpIn_rangeFunc_ownH (F:=JK) rfl O_ (gf:=104) (lb:=#[i_ (c_ ⟨w+1,0,b_⟩)]) rfl trivial (enters_of Tryz.func104 K_ rfl)
  cF.o rk ?hKb B_ (λ_=>rfl)
  (λpre W=>EI w (pre.map (·.1.e)) W)
  (λ_ _ _=>False) ?hI ?hIx eC.o
  (Jp w (λ(x:kd xs) bx=>#[i_ (c_ ⟨px,0,b_⟩),q_,a_ b_ 0 0,i_ (c_ ⟨w,0,b_⟩),i_ (c_ ⟨bx,0,b_⟩),i_ (c_ ⟨px,0,b_⟩),.func (.func 104) #[] #[i_ (c_ ⟨w+1,0,b_⟩)],x.1.v,q_,q_,q_,q_,q_,q_])) ?hAx ?assign ?body ?done ?stop
 case hKb=>
  intro W l o o' hl c8 b2 fr;have:=bb.o;refine jU O_ c8 b2 (λk hk=>?_);rcases hk with rfl|⟨v,hv,hk⟩
  ·exact .inl rfl
  refine .inr ⟨v,?_,hk⟩;rw[D_ (w:=W) (dq W l o' (by show w.heap.size≠l;omega))]at hv;exact hv
 case hI=>
  intro pre X Y row hs hg hr;exact hs.walk hg (λr e=>⟨by have:=(hr r e).1;have:=bb.o;omega,(hr r e).2⟩)
 case hIx=>
  intro _ _ _ _ _ hs _ _;exact hs
 case hAx=>
  rintro x a' _ X Y row ⟨bx,A,c,h1,h2,h3,h4,h5,v,h6,h7⟩ hg hr;have nc:∀(k:Nat) (cs:Array m_) (t:TypeId) (fz:Nat×Nat),X.heap[k]?=c_ (f_ cs t fz)->Y.heap[k]?=X.heap[k]?:=λk cs t fz hk=>hg.block k (F_ hk) (λe=>by
   obtain⟨o,ho,hc⟩:=(hr k e.symm).2;rw[hk]at ho;cases ho;cases hc)
  exact⟨bx,A,c,h1,h2,h3,h4,(nc _ _ _ _ h5).trans h5,v,(nc _ _ _ _ h6).trans h6,h7⟩
 case assign=>
  intro l pre x W K O G;obtain⟨A5,c5,e5,bn⟩:=c6.o x.1 x.2;have cf:=G {tmps:=#[i_ (c_ ⟨px,0,b_⟩),q_,a_ b_ 0 0,i_ (c_ ⟨w,0,b_⟩),i_ (c_ ⟨W,0,b_⟩),i_ (c_ ⟨px,0,b_⟩),.func (.func 104) #[] #[i_ (c_ ⟨w+1,0,b_⟩)],JI #[g_ x.1.e.uri,e_ d_ x.1.e.bu,a_ A5 x.1.e.aI.length c5],q_,q_,q_,q_,q_,q_],defers:=[]}
   (W.alloc (f_ #[g_ x.1.e.uri,e_ d_ x.1.e.bu,a_ A5 x.1.e.aI.length c5] 55)) ⟨by simp,λk o _ hk _=>(z_ _ _ _ (F_ hk)).trans hk⟩
   ⟨by simp,λk o hk _ _=>(z_ _ _ _ (F_ hk)).trans hk,λk hk=>by
    have gi:=O.size;rcases hk with rfl|⟨v,hv,hk⟩
    ·exact .inl (.inl rfl)
    ·refine .inl (.inr ⟨v,?_,hk⟩)
     rw[D_ (w:=W) (a:=⟨w,0,b_⟩) (z_ _ _ _ (by show w.heap.size<W.heap.size;omega))]at hv;exact hv⟩ (O.go (ah W _)) ⟨W,A5,c5,O.size,e5,bn,by dsimp only;rw[e5],r_ W _,by
    obtain⟨v,us,q1,q2⟩:=O.row;exact⟨v,q1.alloc _,λe=>by have:=(q2.own.lt _ e).2;omega⟩⟩
  have HF:=Z_ cf;clear G cf;dsimp only[ER];rw[e5];clear e5 bn;gi_wp2;exact HF.o
 case body=>
  rintro l pre x a' W gn e0 O ⟨bx,A5,c5,gp,e5,bn,rfl,b3,c9,cg,df⟩ hlen;obtain⟨e1,e2⟩:=eP (c7.o x.1 x.2);have cp:=ia (c7.o x.1 x.2);have dv:=eD cp;have eb:∀y∈x.1.e.aI,eU y.ty:=λy hy=>eU.m8 (by have:=(cU.1 (fp cp y hy).2.1).1;omega)
  obtain⟨v1,cr,bo,ct⟩:=O.row;have gv:=O.size;have gy:pre.length<=100000:=by omega
  have b2:=je x.1.e eb (JI #[g_ x.1.e.uri,e_ d_ x.1.e.bu,a_ A5 x.1.e.aI.length c5]) W.drew ⟨A5,c5,rfl,by omega,bn.ae λg (hg:g<w)=>⟨by show g<W;omega,O.below.block g hg⟩⟩ O_;obtain⟨x0,x1,x2⟩:=aR b3;have p0:=bo.cell;have e3:=bo.frozen;have bf:=Z_ bo;have ba:=Z_ ct;have HI:=Z_ O;have e4:=Z_ b3;obtain⟨Al,cl,cu,-,-⟩:=ct.form;rw[KL]at cu;obtain⟨NL,cv⟩:=N_ (pre.length);rw[<-cv]at cu;have e6:=Z_ cv;have cx:c9=v1:=by
   have h1:c_ (f_ #[c9] 45 (0,0))=c_ (f_ #[v1] 45 (0,0)):=cg.symm.trans bo;simpa using h1
  subst cx;subst cu;have cB:=Z_ df;have ak:x_ (∀W':j_,W'.heap[bx]?=W.heap[bx]?->W'.cell? ⟨bx,0,b_⟩=c_ (g_ x.1.e.uri)/\W'.cell? ⟨bx,1,b_⟩=c_ (e_ d_ x.1.e.bu)/\W'.cell? ⟨bx,2,b_⟩=c_ (a_ A5 x.1.e.aI.length c5)):=Z_ λW' h=>aR (h.trans e4.o)
  have bb:=Z_ (ak.o W.drew rfl);have Z:=Z_ (ao b3);have e7:x_ (W.drew.cell? ⟨w,0,b_⟩=c_ (a_ Al NL cl)):=Z_ p0;have ec:x_ (Calls h_ 61 #[JI #[g_ x.1.e.uri,e_ d_ x.1.e.bu,a_ A5 x.1.e.aI.length c5]] W.drew λe w2=>∃A2 c2,e=k_ (JI #[g_ x.1.e.uri,e_ d_ x.1.e.bu,a_ A2 x.1.e.aI.length c2])/\x_ (iG (λg=>W.heap.size<=g/\g<w2.heap.size) w2 (a_ A2 x.1.e.aI.length c2) x.1.e.aI)/\x_ (n_ W W w2)/\w2.cell? ⟨w,0,b_⟩=c_ (a_ Al NL cl)):=Z_ (by
   refine b2.mono ?_;rintro e w2 ⟨A2,c2,rfl,e8,e9⟩;have U:n_ W W w2:=((JG _ W).drew).trans e9;exact⟨A2,c2,rfl,Z_ e8,Z_ U,(U.cell (p:=⟨w,0,b_⟩) (by show w.heap.size<W.heap.size;omega)).trans p0⟩)
  have bp:x_ (x.1.e.uri.size<=9223372036854775807):=Z_ O_;have gz:NL<=100000:=by omega
  clear x0 x1 x2 p0 e3 b2 bo cg ct O b3 df eb cp e1 e2 dv bn cv;have ch:(pre++[x]).map (·.1.e)=pre.map (·.1.e)++[x.1.e]:=by simp
  have bt:=Z_ ch;have bg:x_ ((pre.map (·.1.e)).length=NL):=Z_ (by rw[KL,e6.o]);clear ch;dsimp only;rw[e5];clear e5;gi_wp2;refine gS (S:=λw2:j_=>w2.cell? ⟨bx,0,b_⟩=c_ (g_ x.1.e.uri)/\w2.cell? ⟨bx,1,b_⟩=c_ (e_ d_ x.1.e.bu)/\w2.cell? ⟨bx,2,b_⟩=c_ (a_ A5 x.1.e.aI.length c5)) K_ K_ (by rintro⟨_,_,h⟩;exact h) ?_;refine Jy (i:=1) (v:=JI #[g_ x.1.e.uri,e_ d_ x.1.e.bu,a_ A5 x.1.e.aI.length c5]) rfl K_ K_ K_ (λ_ _ _ h=>h) (Or.inl ⟨by rfl,λw' hS=>by obtain⟨s0,s1,s2⟩:=hS;go_simp⟩) bb.o ?_;refine K3 (rs:=[0,2]) K_ (by simp) ?_;intro i hi;simp only[JL,Ky,Lw]at hi;rcases hi with rfl|rfl
  ·refine cA rfl rfl (λK G=>?_)
   have q0:=e7.o;go_simp;clear q0;refine G _ _ ⟨bb.o,?_⟩;clear G K;refine ag 2 λK G=>?_
   go_simp;refine ec.o.mono ?_;rintro e w2 ⟨A2,c2,rfl,b5,M,q3⟩;have b6:=Z_ q3;have cb:=Z_ (ak.o w2 (M.o.block _ Z.o));refine G _ _ ⟨cb.o,?_⟩;clear G K q3;have J:x_ (n_ W W (w2.alloc (f_ #[g_ x.1.e.uri,e_ d_ x.1.e.bu,a_ A2 x.1.e.aI.length c2] 55))):=Z_ (M.o.alloc (by have:=M.o.size;omega) _);have ee:x_ ((w2.alloc (f_ #[g_ x.1.e.uri,e_ d_ x.1.e.bu,a_ A2 x.1.e.aI.length c2] 55)).cell? ⟨w,0,b_⟩=c_ (a_ Al NL cl)):=Z_ (Kn _ b6.o);have bB:=Z_ (ak.o (w2.alloc (f_ #[g_ x.1.e.uri,e_ d_ x.1.e.bu,a_ A2 x.1.e.aI.length c2] 55)) (J.o.block _ Z.o));refine ag 3 λK G=>?_
   go_simp;refine G _ _ ⟨bB.o,?_⟩;clear G K;refine ag 4 λK G=>?_
   have j:=(az.below (R:=eW) eW.ae ba.o M.o).own;rw[bg.o]at j;obtain⟨bj,av⟩:=N_ (cr.flatMap cX);rw[<-av]at j;have bN:=Z_ av;have a1:=Z_ j;have eg:=M.o.size;clear av j;refine ig _ (.tmp 8) (.tmp 11) 45 rfl (w+2) 55 3 EP _ NL bj rfl (Kf a1.o _) ⟨w2,0,b_⟩ 1 1 [g_ x.1.e.uri,e_ d_ x.1.e.bu,a_ A2 x.1.e.aI.length c2] rfl rfl (bF _ _ _) (uB _ _ _ _ _) O_ (by simp;omega) (λv3 w3 I V ad=>?_);have U:=V.block bx (by have:=J.o.size;have:=Z.o;omega) (λe=>cB.o e.symm);have bO:=Z_ (ak.o w3 (U.trans (J.o.block _ Z.o)));have a2:Boxed w3 w 45 (a_ Al NL cl):=(V.block _ (by have:=J.o.size;omega) (λe=>by have:=(ba.o.own.lt _ e.symm).1;omega)).trans ((J.o.block _ O_).trans bf.o);have en:=a2.frozen;have eo:=a2.cell;have bR:=Z_ (HI.o.next rfl bf.o ba.o M.o b5.o bp.o (by rw[bg.o,<-bN.o];exact I) V ad);have b0:=Z_ (ak.o (w3.setCell ⟨w,0,b_⟩ v3) ((ab (a:=⟨w,0,b_⟩) (show bx≠w.heap.size by omega)).trans (U.trans (J.o.block _ Z.o))));refine G _ _ ⟨bO.o,?_⟩;clear G K;refine ag 5 λK G=>?_
   obtain⟨A3,c3,b1⟩:=ownsRow_form I;clear I V ad a2 U;subst b1;go_simp;refine G _ _ ⟨b0.o,?_⟩;clear G K;refine J6 K_ ?_ _;gi_wp2;have:=bR.o;rw[<-bt.o]at this;rw[bm.o];exact this
  refine cA rfl rfl (λK G=>?_);go_simp;refine ec.o.mono ?_;rintro e w2 ⟨A2,c2,rfl,b5,M,q3⟩;have b6:=Z_ q3;have cb:=Z_ (ak.o w2 (M.o.block _ Z.o));refine G _ _ ⟨cb.o,?_⟩;clear G K q3;have J:x_ (n_ W W (w2.alloc (f_ #[g_ x.1.e.uri,e_ d_ x.1.e.bu,a_ A2 x.1.e.aI.length c2] 55))):=Z_ (M.o.alloc (by have:=M.o.size;omega) _);have ee:x_ ((w2.alloc (f_ #[g_ x.1.e.uri,e_ d_ x.1.e.bu,a_ A2 x.1.e.aI.length c2] 55)).cell? ⟨w,0,b_⟩=c_ (a_ Al NL cl)):=Z_ (Kn _ b6.o);have bB:=Z_ (ak.o (w2.alloc (f_ #[g_ x.1.e.uri,e_ d_ x.1.e.bu,a_ A2 x.1.e.aI.length c2] 55)) (J.o.block _ Z.o));refine K3 (rs:=[0,3]) K_ (by simp) ?_;intro i hi;simp only[JL,Ky,Lw]at hi;rcases hi with rfl|rfl
  ·refine cA rfl rfl (λK G=>?_)
   have q0:=b6.o;go_simp;clear q0;refine G _ _ ⟨cb.o,?_⟩;clear G K;refine ag 3 λK G=>?_
   go_simp;refine G _ _ ⟨bB.o,?_⟩;clear G K;refine ag 4 λK G=>?_
   have j:=(az.below (R:=eW) eW.ae ba.o M.o).own;rw[bg.o]at j;obtain⟨bj,av⟩:=N_ (cr.flatMap cX);rw[<-av]at j;have bN:=Z_ av;have a1:=Z_ j;have eg:=M.o.size;clear av j;refine ig _ (.tmp 8) (.tmp 11) 45 rfl (w+2) 55 3 EP _ NL bj rfl (Kf a1.o _) ⟨w2,0,b_⟩ 1 1 [g_ x.1.e.uri,e_ d_ x.1.e.bu,a_ A2 x.1.e.aI.length c2] rfl rfl (bF _ _ _) (uB _ _ _ _ _) O_ (by simp;omega) (λv3 w3 I V ad=>?_);have U:=V.block bx (by have:=J.o.size;have:=Z.o;omega) (λe=>cB.o e.symm);have bO:=Z_ (ak.o w3 (U.trans (J.o.block _ Z.o)));have a2:Boxed w3 w 45 (a_ Al NL cl):=(V.block _ (by have:=J.o.size;omega) (λe=>by have:=(ba.o.own.lt _ e.symm).1;omega)).trans ((J.o.block _ O_).trans bf.o);have en:=a2.frozen;have eo:=a2.cell;have bR:=Z_ (HI.o.next rfl bf.o ba.o M.o b5.o bp.o (by rw[bg.o,<-bN.o];exact I) V ad);have b0:=Z_ (ak.o (w3.setCell ⟨w,0,b_⟩ v3) ((ab (a:=⟨w,0,b_⟩) (show bx≠w.heap.size by omega)).trans (U.trans (J.o.block _ Z.o))));refine G _ _ ⟨bO.o,?_⟩;clear G K;refine ag 5 λK G=>?_
   obtain⟨A3,c3,b1⟩:=ownsRow_form I;clear I V ad a2 U;subst b1;go_simp;refine G _ _ ⟨b0.o,?_⟩;clear G K;refine J6 K_ ?_ _;gi_wp2;have:=bR.o;rw[<-bt.o]at this;rw[bm.o];exact this
  refine cA rfl rfl (λK G=>?_);go_simp;refine G _ _ ⟨bB.o,?_⟩;clear G K;refine ag 0 λK G=>?_
  have q0:=ee.o;go_simp;clear q0;refine G _ _ ⟨bB.o,?_⟩;clear G K;refine ag 4 λK G=>?_
  have j:=(az.below (R:=eW) eW.ae ba.o M.o).own;rw[bg.o]at j;obtain⟨bj,av⟩:=N_ (cr.flatMap cX);rw[<-av]at j;have bN:=Z_ av;have a1:=Z_ j;have eg:=M.o.size;clear av j;refine ig _ (.tmp 8) (.tmp 11) 45 rfl (w+2) 55 3 EP _ NL bj rfl (Kf a1.o _) ⟨w2,0,b_⟩ 1 1 [g_ x.1.e.uri,e_ d_ x.1.e.bu,a_ A2 x.1.e.aI.length c2] rfl rfl (bF _ _ _) (uB _ _ _ _ _) O_ (by simp;omega) (λv3 w3 I V ad=>?_);have U:=V.block bx (by have:=J.o.size;have:=Z.o;omega) (λe=>cB.o e.symm);have bO:=Z_ (ak.o w3 (U.trans (J.o.block _ Z.o)));have a2:Boxed w3 w 45 (a_ Al NL cl):=(V.block _ (by have:=J.o.size;omega) (λe=>by have:=(ba.o.own.lt _ e.symm).1;omega)).trans ((J.o.block _ O_).trans bf.o);have en:=a2.frozen;have eo:=a2.cell;have bR:=Z_ (HI.o.next rfl bf.o ba.o M.o b5.o bp.o (by rw[bg.o,<-bN.o];exact I) V ad);have b0:=Z_ (ak.o (w3.setCell ⟨w,0,b_⟩ v3) ((ab (a:=⟨w,0,b_⟩) (show bx≠w.heap.size by omega)).trans (U.trans (J.o.block _ Z.o))));refine G _ _ ⟨bO.o,?_⟩;clear G K;refine ag 5 λK G=>?_
  obtain⟨A3,c3,b1⟩:=ownsRow_form I;clear I V ad a2 U;subst b1;go_simp;refine G _ _ ⟨b0.o,?_⟩;clear G K;refine J6 K_ ?_ _;gi_wp2;have:=bR.o;rw[<-bt.o]at this;rw[bm.o];exact this
 case done=>
  rintro D ys W hD rfl O G;obtain⟨v,us,hv,hr⟩:=O.row;have hc:=hv.cell;have hz:=O.size;have HI:=Z_ O;clear O;gi_wp2;refine⟨by simp,.inl ⟨_,_,rfl,run_takeDeferred G,?_⟩⟩;have hY:=HI.o.walk (grownBy_putObj' W D (.deferred b_)) (λr e=>by cases e;exact⟨by have:=bb.o;omega,_,G,rfl⟩);obtain⟨v',bj,fb,fi⟩:=hY.row;have cx:v'=v:=by
   have h1:(W.putObj D (.deferred b_)).cell? ⟨w,0,b_⟩=c_ v:=by
    rw[D_ (w:=W) (a:=⟨w,0,b_⟩) (dq W D _ (λ(e:w.heap.size=D)=>by have:=bb.o;omega))];exact hc
   rw[fb.cell]at h1;exact Option.some.inj h1
  subst cx;refine⟨_,results_tmp rfl _ _ _,v',rfl,?_,hY.below⟩;have he:=az.FJ fi;have hm:xs.attach.map (·.1.e)=xs.map (·.e):=by
   rw[show(λx:kd xs=>x.1.e)=(gY.e∘Subtype.val)from rfl,<-Mv,List.attach_map_subtype_val]
  rw[hm]at he;exact jn.ae he λg hg=>⟨⟨by omega,hg.2⟩,rfl⟩
 rintro D c pre W _ _ h _;exact h.elim
theorem vO(w:j_)(j G I:Nat)(xs:List gY)(S:Nat->Prop)(h:dN w j G I xs S)(hS:∀k,S k->k<w.heap.size)(t:Ix.Good (xs.map (·.e)))(D:xs.length<=100000):
  Calls h_ 18 #[i_ (c_ ⟨j,0,b_⟩)] w λe w'=>∃v,e=k_ v/\aS (λg=>w.heap.size<=g/\g<w'.heap.size) w' v (xs.map (·.e))/\n_ w w w':=
 (sy w j G I xs S h hS t D).mono (by rintro e w' ⟨v,rfl,h,J⟩;exact⟨v,rfl,jn.at_ h,J⟩)
