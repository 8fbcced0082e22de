import Derived.Deep.DeepCutAuto
import Derived.Test.YtaalbcfpacpgfaaGreatZdJ9
set_option linter.all false
set_option maxHeartbeats 16000000
set_option maxRecDepth 100000
open And renaming intro->KM
open Bool renaming false->o_
open ByteArray renaming mk->Mz
open Go renaming Calls->H_,Value->m_,World->j_,maxLen->JT
open Go.Ending renaming returned->k_
open Go.IntKind renaming i64->d_
open Go.Lib renaming byteCells->l_
open Go.Obj renaming cells->f_
open Go.Proofs.Tryz renaming prog->h_
open Go.RowKit renaming Below->n_,Hid->x_
open Go.Value renaming bool->u_,int->e_,ownBlock->KT,pointer->i_,slice->a_
open Option renaming none->b_,some->c_
open Or renaming inl->Ke
namespace Go.Proofs.YtaalbcfpacpgfaaGreat
open Go.RowKit Go.Lib Go.Vfs Go.Par Go.Shelf
def JS(w:j_)(pj p gen:Nat)(base log:List (List UInt8))(G:Nat->Prop):Prop:=∃bv lv bs us,JV w pj p gen bv lv bs us base log G
structure JF(w:j_)(pj p:Nat)(st:St)(gen:Nat)(base log:List (List UInt8))(F G:Nat->Prop):Prop where
 fs:Jw w p st F
 js:JS w pj p gen base log G
 apart:∀k,G k->¬F k
variable{w w':j_}{pj p gen:Nat}{base log:List (List UInt8)}{G F:Nat->Prop}
theorem JS.lt(h:JS w pj p gen base log G):∀k,G k->k<w.heap.size:=by
 obtain⟨bv,lv,bs,us,h⟩:=h;exact h.lt
theorem JS.block(h:JS w pj p gen base log G)(j:∀k,G k->w'.heap[k]?=w.heap[k]?):JS w' pj p gen base log G:=by
 obtain⟨bv,lv,bs,us,h⟩:=h;exact⟨bv,lv,bs,us,h.block j⟩
theorem JF.below{st:St}(h:JF w pj p st gen base log F G)(t:n_ w w w'):JF w' pj p st gen base log F G:=
 ⟨h.fs.ae λk j=>t.block k (h.fs.lt k j),h.js.block λk j=>t.block k (h.js.lt k j),h.apart⟩
def dO(w:j_)(pj p:Nat)(F G:Nat->Prop)(st:St)(gen:Nat)(base log:List (List UInt8))(w':j_):Prop:=
 ∃F' G',JF w' pj p st gen base log F' G'/\Kept (λk=>F k\/G k) w w'/\aH w F F'/\aH w G G'
theorem dO.same{st:St}(h:JF w pj p st gen base log F G)(j:n_ w w w'):dO w pj p F G st gen base log w':=
 ⟨F,G,h.below j,Kept.ar j,aH.refl _ _,aH.refl _ _⟩
theorem dO.files{I:j_}{st t:St}{F':Nat->Prop}(h:JF w pj p st gen base log F G)(D:n_ w w I)(O:Jw w' p t F')(K:Kept F I w')(M:aH I F F'):dO w pj p F G t gen base log w':=by
 refine⟨F',G,⟨O,h.js.block λk j=>?_,λk j J=>?_⟩,?_,λk j=>(M k j).imp id (λh2=>by have:=D.size;omega),aH.refl _ _⟩
 ·have:=h.js.lt k j
  have:=D.size;exact(K.block k O_ (h.apart k j)).trans (D.block k (h.js.lt k j))
 ·have:=h.js.lt k j
  have:=D.size;rcases M k J with h2|h2
  ·exact h.apart k j h2
  omega
 exact((Kept.ar (F:=F) D).trans K (aH.refl _ _)).mono λk _ j=>.inl j
theorem Dq{st:St}(h:JF w pj p st gen base log F G):
  H_ h_ 68 #[i_ (c_ ⟨pj,0,b_⟩)] w λe w'=>e=k_ (e_ d_ (log.length:Nat))/\∃n,w'=w.drewN n:=by
 obtain⟨-,⟨bv,lv,bs,us,hj⟩,-⟩:=h;obtain⟨⟨c0,c1,c2,c3⟩,-⟩:=hj.cells;obtain⟨A,c,e⟩:=Own.qY hj.jB;rw[e]at c3;clear hj;go_enter Tryz.func68,Tryz.ntmps68;go_wp2;go_ret;exact⟨rfl,0,rfl⟩
def dx(st:St):St×Int:=if bV st.files [108,111,103]then dG st [108,111,103]else(st,0)
theorem Bw{st:St}(h:JF w pj p st gen base log F G)(t:st.files.length<=100000)(D:∀f∈st.files,f.name.length<=100000)(J:st.aa<=9223372036854775807):
  H_ h_ 65 #[i_ (c_ ⟨pj,0,b_⟩)] w λe w'=>e=k_ (e_ d_ (dx st).2)/\dO w pj p F G (dx st).1 gen base log w':=by
 have K:=Z_ h;obtain⟨U,⟨bv,lv,bs,us,hj⟩,-⟩:=h;obtain⟨⟨c0,c1,c2,c3⟩,-⟩:=hj.cells;have Y:=Z_ hj;have I:=Z_ (uq w p st F U t D [108,111,103]);clear U hj c1 c2 c3 t D;go_enter Tryz.func65,Tryz.ntmps65;go_wp2_with fail;refine I.o.mono ?_;rintro e Z ⟨rfl,j⟩;obtain⟨⟨d0,-⟩,-⟩:=(Y.o.go j).cells;have M:=Z_ j;clear j;cases V:bV st.files [108,111,103]
 ·have O:x_ (dx st=(st,0)):=Z_ (by unfold dx;rw[V];rfl)
  go_wp2;go_ret;rw[O.o];exact⟨rfl,dO.same K.o M.o⟩
 have O:x_ (dx st=dG st [108,111,103]):=Z_ (by unfold dx;rw[V];rfl);go_wp2_with fail;refine(xI Z p st F (K.o.below M.o).fs ⟨#[108,111,103]⟩ (by decide) J).mono ?_;rintro e w2 ⟨F',rfl,h1,h2,X⟩;rw[<-O.o]at h1⊢;have H1:=Z_ h1;have H2:=Z_ h2;have H3:=Z_ X;clear h1 h2 X;go_wp2;go_ret;exact⟨rfl,dO.files K.o M.o H1.o H2.o H3.o⟩
theorem lD{base:Nat}{e:TypeId}{v:m_}{xs:List m_}(h:Par.Own w base e v xs):a8 (λb=>v.ownBlock=c_ b) w v xs:=by
 have J:=h.lt;rcases h.2 with⟨rfl,h0⟩|⟨g,cap,cur,rfl,K,M,j,t,I,D⟩
 ·have:xs=[]:=JH h0
  rw[this];exact⟨b_,0,rfl,by simp,by simp[JT],λh=>by simp at h⟩
 refine⟨_,cap,rfl,j,t,λ_=>⟨g,0,rfl,rfl,λi hi=>?_⟩⟩;have hc:=LB (g:=g) h rfl i (xs[i]'hi) (w_ hi);rw[<-cS,hc,w_ hi]
section
variable{w:j_}{pj p gen:Nat}{bv lv:m_}{bs us:List m_}{base log:List (List UInt8)}{G:Nat->Prop}
theorem JV.AG(h:JV w pj p gen bv lv bs us base log G):al (λk=>G k/\k≠pj) w bv base:=by
 have D:bs.length=base.length:=by have:=h.mf.1;simpa using this
 have j:Par.Own w 0 24 bv bs:=by unfold Par.Own;rw[D];exact h.mf
 exact⟨bs,D,(lD j).ae λb t=>⟨h.gb b t,rfl⟩,λi hi=>(h.CW i hi).ae λb t=>⟨⟨t.1,t.2.1⟩,rfl⟩⟩
theorem JV.Ig(h:JV w pj p gen bv lv bs us base log G):al (λk=>G k/\k≠pj) w lv log:=by
 have D:us.length=log.length:=by have:=h.jB.1;simpa using this
 have j:Par.Own w 0 24 lv us:=by unfold Par.Own;rw[D];exact h.jB
 exact⟨us,D,(lD j).ae λb t=>⟨⟨(h.gl b t).1,(h.gl b t).2.1⟩,rfl⟩,λi hi=>(h.Dx i hi).ae λb t=>⟨⟨t.1,t.2.1⟩,rfl⟩⟩
end
variable{w:j_}{us:List m_}{pj p gen:Nat}{base log:List (List UInt8)}{G F:Nat->Prop}
theorem Rowed.join{I w3:j_}{u1 v:m_}{j t:List m_}{a b:List (List UInt8)}(X:n_ w w I)(J:j.length=a.length)(M:t.length=b.length)(Z:Par.Own I w 24 u1 j)
  (c1:∀i,i<a.length->a8 (λk=>w.heap.size<=k/\k<I.heap.size/\u1.ownBlock≠c_ k) I (j.getD i (u_ o_)) (l_ (a.getD i [])))
  (c2:∀i,i<b.length->a8 (λk=>w.heap.size<=k/\k<I.heap.size/\u1.ownBlock≠c_ k) I (t.getD i (u_ o_)) (l_ (b.getD i [])))
  (K:Par.Own w3 w 24 v (j++t)) (O:I.grownBy w3 u1.ownBlock) (U:v.ownBlock=u1.ownBlock\/v.ownBlock=c_ I.heap.size):Rowed w (a++b) (a++b).length v (j++t) w3:=by
 have hz:=X.size;have ad:=O.size;have ae:∀k,(w.heap.size<=k/\k<I.heap.size/\u1.ownBlock≠c_ k)->(w.heap.size<=k/\k<w3.heap.size/\v.ownBlock≠c_ k)/\w3.heap[k]?=I.heap[k]?:=λk ⟨k1,k2,Y⟩=>by
  refine⟨⟨k1,by omega,λe=>?_⟩,O.block k k2 (λe=>Y e.symm)⟩;rcases U with V|V
  ·exact Y (V.symm.trans e)
  rw[V]at e;cases e;omega
 refine⟨X.grown O O_ (λg e=>(Z.lt g e).1),by simp[J,M],K,λi hi=>?_⟩;by_cases D:i<a.length
 ·rw[show(j++t).getD i (u_ o_)=j.getD i (u_ o_) by simp[s_,Kx,J,D],show(a++b).getD i []=a.getD i [] by simp[s_,Kx,D]]
  exact(c1 i D).ae ae
 rw[show(j++t).getD i (u_ o_)=t.getD (i - a.length) (u_ o_) by simp[s_,Kx,J,D],show(a++b).getD i []=b.getD (i - a.length) [] by simp[s_,Kx,D]];exact(c2 _ (by simp at hi;omega)).ae ae
theorem EH{S:Nat->Prop}{ls:List (List UInt8)}(j:us.length=ls.length)(h:∀i,i<ls.length->a8 S w (us.getD i (u_ o_)) (l_ (ls.getD i []))):∀x∈us,x.oneCell'=true:=by
 intro x hx;obtain⟨i,hi,rfl⟩:=J4 hx;have:=h i O_;rw[show us.getD i (u_ o_)=us[i] by simp[s_,hi]]at this;exact eB this
theorem ux(h:JS w pj p gen base log G)(hb:base.length<=1000000)(hl:log.length<=1000000)(ak:∀l∈base,l.length<=1000000)(av:∀l∈log,l.length<=1000000):
  H_ h_ 54 #[i_ (c_ ⟨pj,0,b_⟩)] w λe w'=>∃v us,e=k_ v/\Rowed w (base++log) (base++log).length v us w':=by
 obtain⟨bv,lv,bs,us,hj⟩:=h;obtain⟨⟨c0,c1,c2,c3⟩,-⟩:=hj.cells;have HB:=Z_ (hj.AG.sub (S':=(·<w.heap.size)) λk M=>hj.lt k M.1);have HL:=Z_ (hj.Ig.sub (S':=(·<w.heap.size)) λk M=>hj.lt k M.1);obtain⟨Ab,cb,bf⟩:=Own.qY hj.mf;obtain⟨Al,cl,bg⟩:=Own.qY hj.jB;subst bf bg;have a1:pj<w:=hj.lt _ hj.jJ;have HH:=Z_ (KM hb (KM hl (KM ak av)));clear hj c0 c1 hb hl ak av;have HC:x_ (∀(v:m_) (ls:List (List UInt8)),al (·<w.heap.size) w v ls->ls.length<=1000000->(∀l∈ls,l.length<=1000000)->∀X,n_ w w X->H_ h_ 93 #[v] X λe w'=>∃(A:Option Addr) (c:Nat) (us:List m_),e=k_ (a_ A ls.length c)/\x_ (Rowed X ls ls.length (a_ A ls.length c) us w')/\(w'.cell? ⟨pj,2,b_⟩=c_ (a_ Ab base.length cb)/\w'.cell? ⟨pj,3,b_⟩=c_ (a_ Al log.length cl))):=Z_ λv ls hv h1 h2 X hX=>by
  refine(qH v ls X (hv.ae λb hb=>⟨by have:=hX.size;omega,hX.block b hb⟩) O_ h2).mono ?_;rintro e w' ⟨u,us,rfl,hr⟩;obtain⟨A,c,hf⟩:=hr.own.form;rw[hr.len]at hf;subst hf;have a2:=hX.trans (hr.below.mono hX.size);exact⟨A,c,us,rfl,Z_ hr,(a2.cell (p:=⟨pj,2,b_⟩) a1).trans c2,(a2.cell (p:=⟨pj,3,b_⟩) a1).trans c3⟩
 have j:x_ (w.drew.cell? ⟨pj,2,b_⟩=c_ (a_ Ab base.length cb)/\w.drew.cell? ⟨pj,3,b_⟩=c_ (a_ Al log.length cl)):=Z_ ⟨c2,c3⟩;have HZ:x_ (n_ w w w.drew):=Z_ (JG _ w).drew;clear c2 c3;go_enter Tryz.func54,Tryz.ntmps54;go_upto_region 1 with fail;refine KE (S:=λw'=>w'.cell? ⟨pj,2,b_⟩=c_ (a_ Ab base.length cb)/\w'.cell? ⟨pj,3,b_⟩=c_ (a_ Al log.length cl)) K_ ?_;refine Jy (i:=0) (v:=i_ (c_ ⟨pj,0,b_⟩)) rfl K_ K_ K_ (λ_ _ _ h=>h) (Ke ⟨by rfl,λw' hS=>by obtain⟨U,s1⟩:=hS;go_simp⟩) j.o ?_;refine Jy (i:=1) (v:=i_ (c_ ⟨pj,0,b_⟩)) rfl K_ K_ K_ (λ_ _ _ h=>h) (Ke ⟨by rfl,λw' hS=>by obtain⟨U,s1⟩:=hS;go_simp⟩) j.o ?_;refine Jy (i:=2) (v:=i_ (c_ ⟨pj,2,b_⟩)) rfl K_ K_ K_ (λ_ _ _ h=>h) (Ke ⟨by rfl,λw' hS=>by obtain⟨U,s1⟩:=hS;go_simp⟩) j.o ?_;refine Jy (i:=3) (v:=a_ Ab base.length cb) rfl K_ K_ K_ (λ_ _ _ h=>h) (Ke ⟨by rfl,λw' hS=>by obtain⟨U,s1⟩:=hS;go_simp⟩) j.o ?_;refine Jy (i:=5) (v:=i_ (c_ ⟨pj,0,b_⟩)) rfl K_ K_ K_ (λ_ _ _ h=>h) (Ke ⟨by rfl,λw' hS=>by obtain⟨U,s1⟩:=hS;go_simp⟩) j.o ?_;refine Jy (i:=6) (v:=i_ (c_ ⟨pj,0,b_⟩)) rfl K_ K_ K_ (λ_ _ _ h=>h) (Ke ⟨by rfl,λw' hS=>by obtain⟨U,s1⟩:=hS;go_simp⟩) j.o ?_;refine Jy (i:=7) (v:=i_ (c_ ⟨pj,3,b_⟩)) rfl K_ K_ K_ (λ_ _ _ h=>h) (Ke ⟨by rfl,λw' hS=>by obtain⟨U,s1⟩:=hS;go_simp⟩) j.o ?_;refine Jy (i:=8) (v:=a_ Al log.length cl) rfl K_ K_ K_ (λ_ _ _ h=>h) (Ke ⟨by rfl,λw' hS=>by obtain⟨U,s1⟩:=hS;go_simp⟩) j.o ?_;refine K3 (rs:=[4]) K_ (by simp) ?_;intro i hi;simp only[JL,Ky,Lw]at hi;subst hi;refine cA rfl rfl (λK D=>?_);go_simp;refine(HC.o _ _ HB.o HH.o.1 HH.o.2.2.1 w.drew HZ.o).mono ?_;rintro e w2 ⟨A2,c2,V,rfl,I,hs2⟩;refine D _ _ ⟨hs2,?_⟩;clear D K;have Y:x_ (n_ w w w2):=Z_ (HZ.o.trans I.o.below);refine ag 9 λK D=>?_
 go_simp;refine(HC.o _ _ HL.o HH.o.2.1 HH.o.2.2.2 w2 Y.o).mono ?_;rintro e w3 ⟨A3,c3,Z,rfl,t,ad⟩;refine D _ _ ⟨ad,?_⟩;clear D K;refine ag 10 λK D=>?_
 have bj:w.heap.size<=w2.heap.size:=Y.o.size;have bn:=t.o.below.size;have ba:n_ w w w3:=Y.o.trans (t.o.below.mono bj);have bk:=I.o.len;have bb:=t.o.len;have J:Par.Own w3 w 24 (a_ A2 base.length c2) V:=I.o.own.below t.o.below;have O:∀g,(a_ A2 base.length c2).ownBlock=c_ g->w.heap.size<=g/\g<w2.heap.size:=λg e=>I.o.own.lt g e
 have C1:∀i,i<base.length->a8 (λk=>w.heap.size<=k/\k<w3.heap.size/\(a_ A2 base.length c2).ownBlock≠c_ k) w3 (V.getD i (u_ o_)) (l_ (base.getD i [])):=λi hi=>(I.o.cells i hi).ae λk M=>⟨⟨M.1,by omega,M.2.2⟩,t.o.below.block k M.2.1⟩
 have C2:∀i,i<log.length->a8 (λk=>w.heap.size<=k/\k<w3.heap.size/\(a_ A2 base.length c2).ownBlock≠c_ k) w3 (Z.getD i (u_ o_)) (l_ (log.getD i [])):=λi hi=>(t.o.cells i hi).ae λk M=>⟨⟨by omega,M.2.1,λe=>by have:=O k e;omega⟩,rfl⟩
 have bd:bw w3 w3 (a_ A3 log.length c3) Z:=t.o.own.dH;refine gj _ (.tmp 7) (.tmp 12) 22 rfl w 24 _ j8 (a_ A2 base.length c2) V rfl J _ _ Z rfl bd (EH bb C2) (by have:=HH.o;omega) O_ (λv4 w4 h2 h3 h4=>?_);have bm:=Z_ (Rowed.join ba bk bb J C1 C2 h2 h3 h4);have g0:=bl h3 ad.1 (λe=>by have:=O pj e;omega);have g1:=bl h3 ad.2 (λe=>by have:=O pj e;omega);refine D _ _ ⟨⟨g0,g1⟩,?_⟩;clear D K;refine ag 11 λK D=>?_
 go_simp;refine D _ _ ⟨⟨g0,g1⟩,?_⟩;clear D K;refine J6 K_ ?_ _;clear h2 h3 h4 J C1 C2 bd ba O g0 g1;go_wp2;go_ret;exact⟨_,_,rfl,bm.o⟩
abbrev aK:List UInt8:=[108,111,103]
abbrev dj:List UInt8:=[98,97,115,101]
abbrev a6:List UInt8:=[110,101,120,116]
def aQ(st:St)(gen:Nat)(log:List (List UInt8))(aJ:List UInt8):St×Int×List (List UInt8):=
 ((br st aK (aw gen aJ)).1,(br st aK (aw gen aJ)).2,if(br st aK (aw gen aJ)).2=0 then log++[aJ]else log)
theorem dO.push{V X w5:j_}{st Y:St}{F':Nat->Prop}(h:JF w pj p st gen base log F G){bv lv:m_}{bs:List m_}(hj:JV w pj p gen bv lv bs us base log G)
  (hf:Jw V p Y F') (hk:Kept F w V) (hg:aH w F F') (hX:n_ V V X) {u2:m_} {l2:List UInt8} (hu:Par.Own X V 5 u2 (l_ l2)) {D:m_}
  (Z:w5.ownsRow 0 24 1 D (log.length+1) (us++[u2])) (M:X.grownBy w5 lv.ownBlock) (O:D.ownBlock=lv.ownBlock\/D.ownBlock=c_ X.heap.size):dO w pj p F G Y gen base (log++[l2]) (w5.setCell ⟨pj,3,b_⟩ D):=by
 have hz:=hk.size;have ba:=hX.size;have ad:=hj.lt;have ak:=hj.kept hk h.apart;have av:=ak.go hX;have a1:=av.FQ hu (λg e a2=>by have:=(hu.lt g e).1;have:=ad g a2;omega) Z M O;have I:∀g,lv.ownBlock=c_ g->G g/\g≠pj:=λg e=>⟨(hj.gl g e).1,(hj.gl g e).2.1⟩
 have J:∀k,F' k->¬G k:=λk j t=>by
  rcases hg k j with h1|h1
  ·exact h.apart k t h1
  have:=ad k t;omega
 have K:=hf.lt;refine⟨F',_,⟨hf.ae λk j=>?_,⟨_,_,_,_,a1⟩,λk j t=>?_⟩,?_,hg,λk j=>?_⟩
 ·rw[ab (λ(e:k=pj)=>J k j (e▸hj.jJ)),M.block k (by have:=K k j;omega) (λe=>J k j (I k e.symm).1)]
  exact hX.block k (K k j)
 ·rcases j with⟨j,-⟩|j|j
  ·exact J k t j
  ·have:=(hu.lt k j).1;have:=K k t;omega
  rcases O with U|U
  ·exact J k t (I k (U▸j)).1
  rw[U]at j;injection j with j;have:=K k t;omega
 ·exact(((hk.mono λk _ j=>.inl j).trans' (Kept.ar hX)).grown M (λk e=>.inl (.inr (I k e).1))).setCell (p:=⟨pj,3,b_⟩) (.inl (.inr hj.jJ)) _
 rcases j with⟨j,-⟩|j|j
 ·exact .inl j
 ·right;have:=(hu.lt k j).1;omega
 rcases O with U|U
 ·exact .inl (I k (U▸j)).1
 rw[U]at j;injection j with j;right;omega
theorem oU{st:St}(h:JF w pj p st gen base log F G)(v:m_)(aJ:List UInt8)(hv:a8 (λk=>k<w.heap.size/\¬F k) w v (l_ aJ))(hp:aJ.length<=65536)
  (hm:Modest st (12+aJ.length)) (ch:log.length<=1000000):
  H_ h_ 11 #[i_ (c_ ⟨pj,0,b_⟩),v] w λe w'=>e=k_ (e_ d_ (aQ st gen log aJ).2.1)/\dO w pj p F G (aQ st gen log aJ).1 gen base (aQ st gen log aJ).2.2 w':=by
 have HH:=Z_ h;obtain⟨hf,⟨bv,lv,bs,us,hj⟩,ba⟩:=h;obtain⟨⟨c0,c1,c2,c3⟩,-⟩:=hj.cells;have HJ:=Z_ hj;have HF:=Z_ hf;have cB:=hj.ra;have bb:x_ (pj<w.heap.size/\¬F pj):=Z_ ⟨hj.lt _ hj.jJ,ba pj hj.jJ⟩;have cb:=Z_ ch;have HM:=Z_ hm;have HV:=Z_ (hv.dH (B:=w.heap.size) λk X=>X.1);have ck:=Z_ hv;obtain⟨A,c,rfl,hc,df,-⟩:=hv;rw[t_]at HV ck hc⊢;have dv:¬(65536:Int)<(aJ.length:Int):=by omega
 have HP:=Z_ hp;have I:x_ (w.drew.cell? ⟨pj,0,b_⟩=c_ (i_ (c_ ⟨p,0,b_⟩))/\w.drew.cell? ⟨pj,1,b_⟩=c_ (e_ .u32 (gen:Nat))):=Z_ ⟨c0,c1⟩;have cl:x_ (n_ w w w.drew):=Z_ (JG _ w).drew;have cc:=Z_ (mr gen cB (a_ A aJ.length c) aJ w.drew (HV.o) O_);clear hf hj ba c0 c1 c2 c3 hp hm ch;go_enter Tryz.func11,Tryz.ntmps11;go_upto_region 3 with fail
 go_cut [5] (λr W=>r=e_ d_ (br st aK (aw gen aJ)).2/\x_ (∃F',Jw W p (br st aK (aw gen aJ)).1 F'/\Kept F w W/\aH w F F'))
 case first=>
  refine KE (S:=λw'=>w'.cell? ⟨pj,0,b_⟩=c_ (i_ (c_ ⟨p,0,b_⟩))/\w'.cell? ⟨pj,1,b_⟩=c_ (e_ .u32 (gen:Nat))) K_ ?_;refine Jy (i:=0) (v:=i_ (c_ ⟨pj,0,b_⟩)) rfl K_ K_ K_ (λ_ _ _ h=>h) (Ke ⟨by rfl,λw' hS=>by obtain⟨s0,s1⟩:=hS;go_simp⟩) I.o ?_;refine Jy (i:=1) (v:=i_ (c_ ⟨pj,0,b_⟩)) rfl K_ K_ K_ (λ_ _ _ h=>h) (Ke ⟨by rfl,λw' hS=>by obtain⟨s0,s1⟩:=hS;go_simp⟩) I.o ?_;refine Jy (i:=2) (v:=i_ (c_ ⟨pj,0,b_⟩)) rfl K_ K_ K_ (λ_ _ _ h=>h) (Ke ⟨by rfl,λw' hS=>by obtain⟨s0,s1⟩:=hS;go_simp⟩) I.o ?_;refine Jy (i:=3) (v:=i_ (c_ ⟨p,0,b_⟩)) rfl K_ K_ K_ (λ_ _ _ h=>h) (Ke ⟨by rfl,λw' hS=>by obtain⟨s0,s1⟩:=hS;go_simp⟩) I.o ?_;refine Jy (i:=4) (v:=i_ (c_ ⟨pj,0,b_⟩)) rfl K_ K_ K_ (λ_ _ _ h=>h) (Ke ⟨by rfl,λw' hS=>by obtain⟨s0,s1⟩:=hS;go_simp⟩) I.o ?_;refine Jy (i:=5) (v:=i_ (c_ ⟨pj,0,b_⟩)) rfl K_ K_ K_ (λ_ _ _ h=>h) (Ke ⟨by rfl,λw' hS=>by obtain⟨s0,s1⟩:=hS;go_simp⟩) I.o ?_;refine Jy (i:=6) (v:=i_ (c_ ⟨pj,1,b_⟩)) rfl K_ K_ K_ (λ_ _ _ h=>h) (Ke ⟨by rfl,λw' hS=>by obtain⟨s0,s1⟩:=hS;go_simp⟩) I.o ?_;refine Jy (i:=7) (v:=e_ .u32 (gen:Nat)) rfl K_ K_ K_ (λ_ _ _ h=>h) (Ke ⟨by rfl,λw' hS=>by obtain⟨s0,s1⟩:=hS;go_simp⟩) I.o ?_;refine Jy (i:=8) (v:=a_ A aJ.length c) rfl K_ K_ K_ (λ_ _ _ h=>h) (Ke ⟨by rfl,λw' hS=>by obtain⟨s0,s1⟩:=hS;go_simp⟩) I.o ?_;refine ag 9 λK j=>?_
  go_simp;refine cc.o.mono ?_;rintro e D ⟨A2,c2,rfl,bj,b1⟩;have O:x_ (n_ w w D):=Z_ (cl.o.trans b1);have bd:=Z_ bj;have hs2:D.cell? ⟨pj,0,b_⟩=c_ (i_ (c_ ⟨p,0,b_⟩))/\D.cell? ⟨pj,1,b_⟩=c_ (e_ .u32 (gen:Nat)):=⟨(O.o.cell (p:=⟨pj,0,b_⟩) bb.o.1).trans I.o.1,(O.o.cell (p:=⟨pj,1,b_⟩) bb.o.1).trans I.o.2⟩;clear bj b1 cc;refine j _ _ ⟨hs2,?_⟩;clear j K;have cE:=KM (Kn (f_ #[a_ A2 (aw gen aJ).length c2] 24) hs2.1) (Kn (f_ #[a_ A2 (aw gen aJ).length c2] 24) hs2.2);refine ag 10 λK j=>?_
  go_simp;refine j _ _ ⟨cE,?_⟩;clear j K;refine ag 11 λK j=>?_
  go_simp;have av:n_ w w (D.alloc (f_ #[a_ A2 (aw gen aJ).length c2] 24)):=O.o.trans ((ah D _).mono O.o.size);have bk:al (Out (D.alloc (f_ #[a_ A2 (aw gen aJ).length c2] 24)) F) (D.alloc (f_ #[a_ A2 (aw gen aJ).length c2] 24)) (a_ (c_ ⟨D,0,b_⟩) 1 1) [aw gen aJ]:=by
   have c8:=bw.new D 24 #[a_ A2 (aw gen aJ).length c2] [a_ A2 (aw gen aJ).length c2] rfl (by simp[JT]);have hz:=O.o.size;have cm:=HF.o.lt;have cF:a8 (Out (D.alloc (f_ #[a_ A2 (aw gen aJ).length c2] 24)) F) (D.alloc (f_ #[a_ A2 (aw gen aJ).length c2] 24)) (a_ (c_ ⟨D,0,b_⟩) 1 1) [a_ A2 (aw gen aJ).length c2]:=by
    refine⟨c_ ⟨D,0,b_⟩,1,rfl,by simp,by simp[JT],λ_=>⟨D,0,rfl,⟨by simp,λhf=>by have:=cm _ hf;omega⟩,λi hi=>?_⟩⟩;have:i=0:=by simp at hi;omega
    subst this;simp
   refine⟨[a_ A2 (aw gen aJ).length c2],rfl,cF,λi hi=>?_⟩;have:i=0:=by simp at hi;omega
   subst this;exact(Own.jf (bd.o.alloc (f_ #[a_ A2 (aw gen aJ).length c2] 24)) (F:=F) (λk X=>by have:=cm k X;exact this))
  have ba:=qx _ p st F (HF.o.ae λk X=>av.block k (HF.o.lt k X)) ⟨#[108,111,103]⟩ (by decide) _ _ bk (by
   have:=HM.o;rw[show [aw gen aJ].flatten.length=12+aJ.length by simp[bc]];exact this)
  rw[show(Mz #[108,111,103]).data.toList=aK from rfl,show [aw gen aJ].flatten=aw gen aJ by simp]at ba;refine ba.mono ?_;rintro e w4 ⟨F',rfl,h1,h2,Y⟩;have b2:Kept F w w4:=(Kept.ar (F:=F) av).trans h2 (aH.refl _ _);have cp:aH w F F':=λk X=>(Y k X).imp id (λh=>by have:=av.size;omega)
  have cr:w4.cell? ⟨pj,0,b_⟩=c_ (i_ (c_ ⟨p,0,b_⟩))/\w4.cell? ⟨pj,1,b_⟩=c_ (e_ .u32 (gen:Nat)):=⟨(D_ (a:=⟨pj,0,b_⟩) (b2.block pj bb.o.1 bb.o.2)).trans I.o.1,(D_ (a:=⟨pj,1,b_⟩) (b2.block pj bb.o.1 bb.o.2)).trans I.o.2⟩;have HR:x_ (∃F',Jw w4 p (br st aK (aw gen aJ)).1 F'/\Kept F w w4/\aH w F F'):=Z_ ⟨F',h1,b2,cp⟩;clear ba bk av h1 h2 Y b2 cp;refine j _ _ ⟨cr,?_⟩;clear j K;refine ag 12 λK j=>?_
  go_simp;refine j _ _ ⟨cr,?_⟩;clear j K;refine J6 K_ ?_ _;go_wp2;go_meet;exact⟨rfl,HR⟩
 obtain⟨rfl,HR⟩:=hcut;have cd:x_ (aQ st gen log aJ=((br st aK (aw gen aJ)).1,(br st aK (aw gen aJ)).2,if(br st aK (aw gen aJ)).2=0 then log++[aJ]else log)):=Z_ rfl;clear I cl cc;obtain⟨F',cf,cg,ct⟩:=HR.o;generalize br st aK (aw gen aJ)=r at*;obtain⟨bm,er⟩:=r;simp only at cf cd⊢;have bn:=HJ.o.kept cg HH.o.apart;have b3:=Z_ cf;have bf:=Z_ cg;have bo:=Z_ ct;have Z:=Z_ bn;obtain⟨⟨c0,c1,c2,c3⟩,-,-,c6⟩:=bn.cells;have a2:pj<wc:=bn.lt _ bn.jJ;clear cf cg ct bn HR;by_cases he:er=0
 ·subst he
  have bp:x_ (aQ st gen log aJ=(bm,0,log++[aJ])):=Z_ (by rw[cd.o];simp);obtain⟨A1,U,b6⟩:=Own.qY HJ.o.jB;obtain⟨NL,b5⟩:=N_ (log.length);rw[<-b5]at b6;have V:=Z_ b5;have J:x_ (us.length=NL):=Z_ (by rw[b5];have:=HJ.o.jB.1;simpa using this);have bg:x_ (lv.ownBlock≠c_ pj):=Z_ λe=>(HJ.o.gl _ e).2.1 rfl
  subst b6;have cu:H_ h_ 48 #[a_ A aJ.length c] wc.drew λe D=>∃A2 c2,e=k_ (a_ A2 aJ.length c2)/\x_ (Par.Own D wc 5 (a_ A2 aJ.length c2) (l_ aJ))/\x_ (n_ wc wc D)/\D.cell? ⟨pj,3,b_⟩=c_ (a_ A1 NL U):=by
   have h0:bw wc wc (a_ A aJ.length c) (l_ aJ):=(ck.o.ae (S':=(·<wc.heap.size)) λk X=>⟨by have:=bf.o.size;omega,bf.o.block k X.1 X.2⟩).dH λk X=>X
   refine(ln _ aJ wc.drew h0 (by have:=HP.o;omega)).mono ?_;rintro e D ⟨u2,rfl,bj,b1⟩;obtain⟨A2,c2,cv⟩:=bj.form;rw[t_]at cv;subst cv;have av:n_ wc wc D:=((JG _ wc).drew).trans b1;exact⟨A2,c2,rfl,Z_ bj,Z_ av,(av.cell (p:=⟨pj,3,b_⟩) a2).trans c3⟩
  have cx:=Z_ cu;have c9:=Z_ (Z.o.go ((JG _ wc).drew));clear b5 c0 c1 c2 cu;go_upto_region 6 with fail;refine KE (S:=λ_=>True) K_ ?_;refine Jy (i:=0) (v:=i_ (c_ ⟨pj,0,b_⟩)) rfl K_ K_ K_ (λ_ _ _ h=>h) (Ke ⟨by rfl,λw' hS=>by go_simp⟩) trivial ?_;refine Jy (i:=1) (v:=i_ (c_ ⟨pj,0,b_⟩)) rfl K_ K_ K_ (λ_ _ _ h=>h) (Ke ⟨by rfl,λw' hS=>by go_simp⟩) trivial ?_;refine Jy (i:=2) (v:=i_ (c_ ⟨pj,0,b_⟩)) rfl K_ K_ K_ (λ_ _ _ h=>h) (Ke ⟨by rfl,λw' hS=>by go_simp⟩) trivial ?_;refine Jy (i:=3) (v:=i_ (c_ ⟨pj,3,b_⟩)) rfl K_ K_ K_ (λ_ _ _ h=>h) (Ke ⟨by rfl,λw' hS=>by go_simp⟩) trivial ?_;refine Jy (i:=5) (v:=a_ A aJ.length c) rfl K_ K_ K_ (λ_ _ _ h=>h) (Ke ⟨by rfl,λw' hS=>by go_simp⟩) trivial ?_;refine K3 (rs:=[4,6]) K_ (by simp) ?_;intro i hi;simp only[JL,Ky,Lw]at hi;rcases hi with rfl|rfl
  ·refine cA rfl rfl (λK j=>?_)
   go_simp;refine j _ _ ⟨trivial,?_⟩;clear j K;refine ag 6 λK j=>?_
   go_simp;refine cx.o.mono ?_;rintro e D ⟨A2,c2,rfl,bd,O,q3⟩;refine j _ _ ⟨trivial,?_⟩;clear j K;have a1:=Kn (f_ #[a_ A2 aJ.length c2] 24) q3;refine ag 7 λK j=>?_
   go_simp;refine j _ _ ⟨trivial,?_⟩;clear j K;refine ag 8 λK j=>?_
   have M:x_ (n_ wc wc (D.alloc (f_ #[a_ A2 aJ.length c2] 24))):=Z_ (O.o.alloc O.o.size _);have t:Par.Own (D.alloc (f_ #[a_ A2 aJ.length c2] 24)) 0 24 (a_ A1 NL U) us:=by
    have:=(Z.o.go M.o).jB;rw[<-V.o]at this;unfold Par.Own;rw[J.o];exact this
   refine gj _ (.tmp 28) (.tmp 31) 22 rfl 0 24 _ j8 (a_ A1 NL U) us rfl t _ _ [a_ A2 aJ.length c2] rfl (bw.new D 24 #[a_ A2 aJ.length c2] [a_ A2 aJ.length c2] rfl (by simp[JT])) (λy hy=>by simp at hy;subst hy;rfl) (by have:=J.o;have:=cb.o;have:=V.o;simp only[Jz,JP];omega) (Km _) (λv3 w5 h2 Y h4=>?_);have bt:x_ (dO w pj p F G bm gen base (log++[aJ]) (w5.setCell ⟨pj,3,b_⟩ v3)):=Z_ (by
    have bx:w5.ownsRow 0 24 1 v3 (log.length+1) (us++[a_ A2 aJ.length c2]):=by have:=h2;unfold Par.Own at this;rw[p_,J.o,V.o]at this;exact this
    exact dO.push HH.o HJ.o b3.o bf.o bo.o M.o (bd.o.alloc _) bx Y h4)
   have bB:w5.frozen? ⟨pj,3,b_⟩=false:=by
    have bN:=Y.block pj (by have:=M.o.size;omega) (λe=>bg.o e.symm);have bO:=bN.trans ((M.o.block pj a2).trans Z.o.head);exact(dh bO).2.2.2
   have bR:w5.cell? ⟨pj,3,b_⟩=c_ (a_ A1 NL U):=bl Y a1 (λe=>bg.o e);refine j _ _ ⟨trivial,?_⟩;obtain⟨A3,b0,ad⟩:=h2.form;have ak:v3=a_ A3 (us.length+1) b0:=by rw[ad,p_];rfl
   clear j K h2 Y h4 t ad;subst ak;refine Jy (i:=9) (v:=i_ (c_ ⟨pj,0,b_⟩)) rfl K_ K_ K_ (λ_ _ _ h=>h) (Ke ⟨by rfl,λw' hS=>by go_simp⟩) trivial ?_;refine Jy (i:=10) (v:=i_ (c_ ⟨pj,3,b_⟩)) rfl K_ K_ K_ (λ_ _ _ h=>h) (Ke ⟨by rfl,λw' hS=>by go_simp⟩) trivial ?_;refine ag 11 λK j=>?_
   go_simp;refine j _ _ ⟨trivial,?_⟩;clear j K;refine J6 K_ ?_ _;clear bR bB q3 a1;go_wp2;go_ret;rw[bp.o];exact⟨rfl,bt.o⟩
  refine cA rfl rfl (λK j=>?_);go_simp;refine cx.o.mono ?_;rintro e D ⟨A2,c2,rfl,bd,O,q3⟩;refine j _ _ ⟨trivial,?_⟩;clear j K;have a1:=Kn (f_ #[a_ A2 aJ.length c2] 24) q3;refine K3 (rs:=[4,7]) K_ (by simp) ?_;intro i hi;simp only[JL,Ky,Lw]at hi;rcases hi with rfl|rfl
  ·refine cA rfl rfl (λK j=>?_)
   go_simp;refine j _ _ ⟨trivial,?_⟩;clear j K;refine ag 7 λK j=>?_
   go_simp;refine j _ _ ⟨trivial,?_⟩;clear j K;refine ag 8 λK j=>?_
   have M:x_ (n_ wc wc (D.alloc (f_ #[a_ A2 aJ.length c2] 24))):=Z_ (O.o.alloc O.o.size _);have t:Par.Own (D.alloc (f_ #[a_ A2 aJ.length c2] 24)) 0 24 (a_ A1 NL U) us:=by
    have:=(Z.o.go M.o).jB;rw[<-V.o]at this;unfold Par.Own;rw[J.o];exact this
   refine gj _ (.tmp 28) (.tmp 31) 22 rfl 0 24 _ j8 (a_ A1 NL U) us rfl t _ _ [a_ A2 aJ.length c2] rfl (bw.new D 24 #[a_ A2 aJ.length c2] [a_ A2 aJ.length c2] rfl (by simp[JT])) (λy hy=>by simp at hy;subst hy;rfl) (by have:=J.o;have:=cb.o;have:=V.o;simp only[Jz,JP];omega) (Km _) (λv3 w5 h2 Y h4=>?_);have bt:x_ (dO w pj p F G bm gen base (log++[aJ]) (w5.setCell ⟨pj,3,b_⟩ v3)):=Z_ (by
    have bx:w5.ownsRow 0 24 1 v3 (log.length+1) (us++[a_ A2 aJ.length c2]):=by have:=h2;unfold Par.Own at this;rw[p_,J.o,V.o]at this;exact this
    exact dO.push HH.o HJ.o b3.o bf.o bo.o M.o (bd.o.alloc _) bx Y h4)
   have bB:w5.frozen? ⟨pj,3,b_⟩=false:=by
    have bN:=Y.block pj (by have:=M.o.size;omega) (λe=>bg.o e.symm);have bO:=bN.trans ((M.o.block pj a2).trans Z.o.head);exact(dh bO).2.2.2
   have bR:w5.cell? ⟨pj,3,b_⟩=c_ (a_ A1 NL U):=bl Y a1 (λe=>bg.o e);refine j _ _ ⟨trivial,?_⟩;obtain⟨A3,b0,ad⟩:=h2.form;have ak:v3=a_ A3 (us.length+1) b0:=by rw[ad,p_];rfl
   clear j K h2 Y h4 t ad;subst ak;refine Jy (i:=9) (v:=i_ (c_ ⟨pj,0,b_⟩)) rfl K_ K_ K_ (λ_ _ _ h=>h) (Ke ⟨by rfl,λw' hS=>by go_simp⟩) trivial ?_;refine Jy (i:=10) (v:=i_ (c_ ⟨pj,3,b_⟩)) rfl K_ K_ K_ (λ_ _ _ h=>h) (Ke ⟨by rfl,λw' hS=>by go_simp⟩) trivial ?_;refine ag 11 λK j=>?_
   go_simp;refine j _ _ ⟨trivial,?_⟩;clear j K;refine J6 K_ ?_ _;clear bR bB q3 a1;go_wp2;go_ret;rw[bp.o];exact⟨rfl,bt.o⟩
  refine cA rfl rfl (λK j=>?_);go_simp;refine j _ _ ⟨trivial,?_⟩;clear j K;refine ag 4 λK j=>?_
  go_simp;refine j _ _ ⟨trivial,?_⟩;clear j K;refine ag 8 λK j=>?_
  have M:x_ (n_ wc wc (D.alloc (f_ #[a_ A2 aJ.length c2] 24))):=Z_ (O.o.alloc O.o.size _);have t:Par.Own (D.alloc (f_ #[a_ A2 aJ.length c2] 24)) 0 24 (a_ A1 NL U) us:=by
   have:=(Z.o.go M.o).jB;rw[<-V.o]at this;unfold Par.Own;rw[J.o];exact this
  refine gj _ (.tmp 28) (.tmp 31) 22 rfl 0 24 _ j8 (a_ A1 NL U) us rfl t _ _ [a_ A2 aJ.length c2] rfl (bw.new D 24 #[a_ A2 aJ.length c2] [a_ A2 aJ.length c2] rfl (by simp[JT])) (λy hy=>by simp at hy;subst hy;rfl) (by have:=J.o;have:=cb.o;have:=V.o;simp only[Jz,JP];omega) (Km _) (λv3 w5 h2 Y h4=>?_);have bt:x_ (dO w pj p F G bm gen base (log++[aJ]) (w5.setCell ⟨pj,3,b_⟩ v3)):=Z_ (by
   have bx:w5.ownsRow 0 24 1 v3 (log.length+1) (us++[a_ A2 aJ.length c2]):=by have:=h2;unfold Par.Own at this;rw[p_,J.o,V.o]at this;exact this
   exact dO.push HH.o HJ.o b3.o bf.o bo.o M.o (bd.o.alloc _) bx Y h4)
  have bB:w5.frozen? ⟨pj,3,b_⟩=false:=by
   have bN:=Y.block pj (by have:=M.o.size;omega) (λe=>bg.o e.symm);have bO:=bN.trans ((M.o.block pj a2).trans Z.o.head);exact(dh bO).2.2.2
  have bR:w5.cell? ⟨pj,3,b_⟩=c_ (a_ A1 NL U):=bl Y a1 (λe=>bg.o e);refine j _ _ ⟨trivial,?_⟩;obtain⟨A3,b0,ad⟩:=h2.form;have ak:v3=a_ A3 (us.length+1) b0:=by rw[ad,p_];rfl
  clear j K h2 Y h4 t ad;subst ak;refine Jy (i:=9) (v:=i_ (c_ ⟨pj,0,b_⟩)) rfl K_ K_ K_ (λ_ _ _ h=>h) (Ke ⟨by rfl,λw' hS=>by go_simp⟩) trivial ?_;refine Jy (i:=10) (v:=i_ (c_ ⟨pj,3,b_⟩)) rfl K_ K_ K_ (λ_ _ _ h=>h) (Ke ⟨by rfl,λw' hS=>by go_simp⟩) trivial ?_;refine ag 11 λK j=>?_
  go_simp;refine j _ _ ⟨trivial,?_⟩;clear j K;refine J6 K_ ?_ _;clear bR bB q3 a1;go_wp2;go_ret;rw[bp.o];exact⟨rfl,bt.o⟩
 have bp:x_ (aQ st gen log aJ=(bm,er,log)):=Z_ (by rw[cd.o,I_ he]);have eb:(er !=0)=true:=by simpa using he
 clear c0 c1 c2 c3 c6 he;go_wp2;go_ret;rw[bp.o];exact⟨rfl,F',G,⟨b3.o,⟨bv,lv,bs,us,Z.o⟩,λk X c7=>by
  rcases bo.o k c7 with h1|h1
  ·exact HH.o.apart k X h1
  have:=HJ.o.lt k X;omega⟩,bf.o.mono λk _ X=>.inl X,bo.o,aH.refl _ _⟩
end Go.Proofs.YtaalbcfpacpgfaaGreat
namespace Go.Par
open Go Go.RowKit
section
variable{F:Fence}{n:Nat}{P:Program}{α:Type}
def GV{β:Type}(J:β->j_->Prop):Prop:=∀s W W',J s W->n_ W.heap.size W W'->J s W'
def zw(F:Fence)(n:Nat)(P:Program)(g:Nat)(lb:Array m_)(encs:α->Array m_)(C:α->j_->Prop)(R:j_->Prop)(Kp:j_->j_->Prop)(S Sp:List α->Prop)(N:Nat)(w:j_):Prop:=
 ∀(l:Nat) (J Jx:List α->j_->Prop) (W:j_),n_ w.heap.size w W->GV J->GV Jx->(∀pre W1,J pre W1->R W1)->
  (∀pre x W1,J pre W1->C x W1->pre.length<N->YieldAt F (n - 1) P l (encs x) W1 λe W'=>(e=k_ (u_ true)/\J (pre++[x]) W'/\Kp W1 W')\/(e=k_ (u_ o_)/\Jx (pre++[x]) W'))->
  J [] W->CallsIn F n P g (#[.func (.yield l) #[] #[]]++lb) W λe W'=>(∃v,e=k_ v)/\((∃xs,S xs/\J xs W')\/(∃pre,Sp pre/\Jx pre W'))
structure gA(q:Nat)(r:Loop)(W:j_):Prop where
 loop:W.heap[q+1]?=c_ (.loop r)
 calls:W.heap[q]?=c_ (.deferred (c_ []))
theorem gA.put{q:Nat}{r j:Loop}{W:j_}(h:gA q r W):gA q j (W.putObj (q+1) (.loop j)):=
 ⟨World.putObj_heap_same (Li.1 h.loop).1,(World.putObj_heap_other O_).trans h.calls⟩
theorem gA.below{q:Nat}{r:Loop}{W W':j_}(h:gA q r W)(j:n_ W W W'):gA q r W':=
 ⟨(j.block _ (F_ h.loop)).trans h.loop,(j.block _ (F_ h.calls)).trans h.calls⟩
def kx(q:Nat)(W W':j_):Prop:=∀r,gA q r W->gA q r W'
def FV{β:Type}(q:Nat)(I:β->j_->Prop):Prop:=∀s W r r',gA q r W->I s W->I s (W.putObj (q+1) (.loop r'))
def El(q:Nat)(Kp:j_->j_->Prop)(I:List α->j_->Prop)(Ix:Code->List α->j_->Prop)(xs:List α)(W:j_):Exit->Act->j_->Prop
 | .normal,_,W'=>kx q W W'/\Kp W W'/\I xs W'
 | .ret,_,W'=>kx q W W'/\Ix .ret xs W'
 | .exit id,_,W'=>kx q W W'/\Ix (.exit id) xs W'
 | .goto t,_,W'=>kx q W W'/\Ix (.goto t) xs W'
 | .panic _,_,_=>False
 | .outgrown,_,_=>False
theorem pW{g:Operand}{ps:Array Tmp}{assign body:Code}{Q:Exit->Act->j_->Prop}{a:Act}{w:j_}
  (bf:F.round=b_) (h1:1<=n) {gf:Nat} {lb:Array m_} (hg:a.eval g=.func (.func gf) #[] lb) (bg:F.fn gf) (eg:∀args w,(callFunc gf args).run P w=.ok (.enter gf args) w)
  {J:α->Array m_} {C:α->j_->Prop} {R:j_->Prop} {Kp:j_->j_->Prop} {S Sp:List α->Prop} {N:Nat} (ak:zw F (n - 1) P gf lb J C R Kp S Sp N w)
  (av:∀{A B C:j_},Kp A B->Kp B C->Kp A C) (hKb:∀(W:j_) r r',gA w r W->Kp W (W.putObj (w+1) (.loop r'))) (bj:∀x,(J x).size=ps.size)
  (I:List α->j_->Prop) (Ix:Code->List α->j_->Prop) (hI:GV I) (hIp:FV w I) (hIx:∀c,GV (Ix c)) (hIxp:∀c,FV w (Ix c)) (hCp:FV w C) (hIR:∀pre W,I pre W->R W) (h0:I [] w) (a₁:α->Act)
  (O:∀(l:Nat) (x:α) (W:j_) (K:Act->j_->Prop),K (a₁ x) W->
   assign.wpIn (F.inRound l) (n - 1 - 1) P (Exit.then K (λ_ _ _=>False)) {tmps:=(ps.zip (J x)).foldl (λt (p,v)=>t.setIfInBounds p v) a.tmps,defers:=[]} W)
  (U:∀(l:Nat) (pre:List α) (x:α) (W:j_),I pre W->C x W->pre.length<N->(∃r,gA w r W)->body.wpIn (F.inRound l) (n - 1 - 1) P (El w Kp I Ix (pre++[x]) W) (a₁ x) W)
  (V:∀(xs:List α) (W:j_),S xs->I xs W->W.heap[w.heap.size]?=c_ (.deferred (c_ []))->Q .normal {a with defers:={target:=.collected w,args:=#[]}::a.defers} W)
  (X:∀(c:Code) (pre:List α) (W:j_),Sp pre->Ix c pre W->W.heap[w.heap.size]?=c_ (.deferred (c_ []))->c.wpIn F n P Q {a with defers:={target:=.collected w,args:=#[]}::a.defers} W):
  (Code.rangeFunc g ps assign body).wpIn F n P Q a w:=by
 refine wpIn_rangeFunc λfn bk=>?_
 rw[bf];obtain⟨L,Y⟩:∃L:LoopState->Option Code->Loop,L=λst pe=>{state:=st,pending:=pe,fn,tmps:=a.tmps,params:=ps,assign,body,defers:=w.heap.size}:=⟨_,rfl⟩
 obtain⟨q,hq⟩:=N_ (w.heap.size);have a1:gA q (L .ready b_) ((w.alloc (.deferred (c_ []))).alloc (.loop (L .ready b_))):=by
  refine⟨?_,?_⟩
  ·have:=World.alloc_heap_new (w.alloc (.deferred (c_ []))) (.loop (L .ready b_));rwa[JQ,<-hq]at this
  rw[hq];exact(z_ _ _ _ (by simp)).trans (World.alloc_heap_new w _)
 have ad:n_ w w ((w.alloc (.deferred (c_ []))).alloc (.loop (L .ready b_))):=((JG _ w).alloc L_ _).alloc (by simp) _;have a2:I [] ((w.alloc (.deferred (c_ []))).alloc (.loop (L .ready b_))):=hI _ _ _ h0 ad;have Z:=run_enterLoop_outer (P:=P) (w:=w) fn a.tmps ps assign body;rw[<-hq]at hIp hCp U hKb V X;replace hIxp:∀c,FV q (Ix c):=by rw[hq];exact hIxp
 obtain⟨W1,ba⟩:=N_ ((w.alloc (.deferred (c_ []))).alloc (.loop (L .ready b_)));rw[<-ba]at a1 ad a2;refine⟨w+1,[{target:=.collected w,args:=#[]}],W1,{target:=.fn (.func gf) lb,args:=#[.func (.yield (w+1)) #[] #[]]},W1,gf,#[.func (.yield (w+1)) #[] #[]]++lb,W1,?_,?_,?_,?_,λ_=>h1,?_⟩
 ·rw[ba,Y];exact Z
 ·simp only[resolve,hg]
  simp[go_sem]
 ·intro f' bb;simp[Target.leads]at bb;subst bb;exact bg
 ·simp[invoke,go_sem,eg]
 rw[<-hq];refine(ak (q+1) (λpre W=>I pre W/\gA q (L .ready b_) W) (λpre W=>∃c,Ix c pre W/\gA q (L .done (c_ c)) W) W1 ad
  (λs A B hs hb=>⟨hI s A B hs.1 hb,hs.2.below hb⟩)
  (λs A B ⟨c,hc,j⟩ hb=>⟨c,hIx c s A B hc hb,j.below hb⟩)
  (λpre W h=>hIR pre W h.1) ?_ ⟨a2,a1⟩).mono ?_
 ·rintro pre x W ⟨hi,j⟩ bm hlen
  have hy:=run_yield (P:=P) (args:=J x) j.loop (by rw[Y];exact bj x);rw[Y]at hy;refine⟨fn,_,assign,body,hy,roundIn_of_wpIn bk (O _ x W _ ?_)⟩;refine⟨_,run_beginRound j.loop (by rw[Y]),?_⟩;have bd:gA q {L .ready b_ with state:=.busy} (W.putObj (q+1) (.loop {L .ready b_ with state:=.busy})):=j.put;have bn:Kp W (W.putObj (q+1) (.loop {L .ready b_ with state:=.busy})):=hKb _ _ _ j;have M:∀(jump:Option Code) (W3:j_),kx q (W.putObj (q+1) (.loop {L .ready b_ with state:=.busy})) W3->
    (Instr.endRound (q+1) jump).run P W3=.ok (u_ jump.isNone) (W3.putObj (q+1) (.loop (L (if jump.isNone then .ready else .done) jump)))/\gA q {L .ready b_ with state:=.busy} W3:=λjump W3 bo=>by
   have D:=bo _ bd;have:=run_endRound (P:=P) jump D.loop;rw[Y]at this D⊢;exact⟨this,D⟩
  refine wpIn_mono (U _ pre x _ (hIp _ _ _ _ j hi) (hCp _ _ _ _ j bm) hlen ⟨_,bd⟩) ?_;rintro e a3 W3 hp;cases e with
  |normal=>
   obtain⟨hr,D⟩:=M b_ W3 hp.1;exact⟨_,_,hr,.inl ⟨rfl,⟨hIp _ _ _ _ D hp.2.2,D.put⟩,av (av bn hp.2.1) (hKb _ _ _ D)⟩⟩
  |ret=>
   obtain⟨hr,D⟩:=M (c_ .ret) W3 hp.1;exact⟨_,_,hr,.inr ⟨rfl,.ret,hIxp _ _ _ _ _ D hp.2,D.put⟩⟩
  |exit id=>
   obtain⟨hr,D⟩:=M (c_ (.exit id)) W3 hp.1;exact⟨_,_,hr,.inr ⟨rfl,.exit id,hIxp _ _ _ _ _ D hp.2,D.put⟩⟩
  |goto t=>
   obtain⟨hr,D⟩:=M (c_ (.goto t)) W3 hp.1;exact⟨_,_,hr,.inr ⟨rfl,.goto t,hIxp _ _ _ _ _ D hp.2,D.put⟩⟩
  |panic ch=>exact hp.elim
  |outgrown=>exact hp.elim
 rintro e W2 ⟨⟨v,rfl⟩,(⟨xs,hS,hi,j⟩|⟨pre,bp,c,hi,j⟩)⟩
 ·have hr:=run_endLoop (P:=P) j.loop (by rw[Y];simp)
  rw[Y]at hr;exact⟨b_,_,hr,by rw[<-hq];exact V xs _ hS (hIp _ _ _ _ j hi) ((World.putObj_heap_other O_).trans j.calls)⟩
 have hr:=run_endLoop (P:=P) j.loop (by rw[Y];simp);rw[Y]at hr;exact⟨c_ c,_,hr,by rw[<-hq];exact X c pre _ bp (hIxp _ _ _ _ _ j hi) ((World.putObj_heap_other O_).trans j.calls)⟩
end
end Go.Par
namespace Go.Proofs.YtaalbcfpacpgfaaGreat
open Go.RowKit Go.Lib Go.Vfs Go.Par Go.Shelf
attribute [local go_sem] Oper.semAt_some
def zx(W W':j_):Prop:=W.heap.size<=W'.heap.size/\∀(k:Nat) (cs:Array m_) (t:TypeId) (fz:Nat×Nat),W.heap[k]?=c_ (f_ cs t fz)->(t=25\/t=27\/t=24\/t=95)->W'.heap[k]?=W.heap[k]?
variable{k d p g:Nat}{b s a q:List UInt8}{w w':j_}{F:Nat->Prop}
theorem zx.t{A B C:j_}(h:zx A B)(k:zx B C):zx A C:=⟨Kj h.1 k.1,λi cs t j hi D=>by
 have h1:=h.2 i cs t j hi D;exact(k.2 i cs t j (h1.trans hi) D).trans h1⟩
theorem zx.at{W W':j_}(h:zx W W'){cs:Array m_}{t:TypeId}(j:W.heap[k]?=c_ (f_ cs t (0,0)))(D:t=25\/t=27\/t=24\/t=95):W'.heap[k]?=c_ (f_ cs t (0,0)):=(h.2 k cs t _ j D).trans j
def encS(bB:Nat)(x:Nat×Nat):Array m_:=match x.1 with
 |0=>#[.func (.func 137) #[] #[i_ (c_ ⟨x.2,0,b_⟩),i_ (c_ ⟨bB,0,b_⟩)]]
 |1=>#[.func (.func 138) #[] #[i_ (c_ ⟨x.2,0,b_⟩)]]
 |2=>#[.func (.func 139) #[] #[i_ (c_ ⟨x.2,0,b_⟩)]]
 |_=>#[.func (.func 141) #[] #[i_ (c_ ⟨x.2,0,b_⟩)]]
def CS(p:Nat)(x:Nat×Nat)(W:j_):Prop:=W.heap[x.2]?=c_ (f_ #[i_ (c_ ⟨p,0,b_⟩)] 25 (0,0))
def RS(p:Nat)(hl:Bool)(W:j_):Prop:=∃st F,Jw W p st F/\bV st.files aK=hl/\st.files.length<=100000/\∀f∈st.files,f.name.length<=100000
def a7(hl:Bool):List Nat:=if hl then [0,1,2,3]else [0,1,2]
theorem zg(w:j_)(bj bB pj p:Nat)(V u1 u2 u3:m_)(hl:Bool)(hj:w.heap[bj]?=c_ (f_ #[i_ (c_ ⟨pj,0,b_⟩)] 27 (0,0)))(hB:w.heap[bB]?=c_ (f_ #[V] 24 (0,0)))
  (hp:w.heap[pj]?=c_ (f_ #[i_ (c_ ⟨p,0,b_⟩),u1,u2,u3] 95 (0,0))):
  zw Fence.wide 6 h_ 136 #[i_ (c_ ⟨bj,0,b_⟩),i_ (c_ ⟨bB,0,b_⟩)] (encS bB) (CS p) (RS p hl) zx (λys=>ys.map (·.1)=a7 hl) (λpre=>pre.map (·.1)<+:a7 hl) 4 w:=by
 intro l J Jx W hW hJ cm b2 hY h0;have ba:=(hW.block bj (F_ hj)).trans hj;have bb:=(hW.block pj (F_ hp)).trans hp;obtain⟨q0,-⟩:=aL ba;obtain⟨⟨r0,-,-,-⟩,-⟩:=dh bb;clear hW hj hB hp ba bb;have cp:Fence.wide.fn 41:=trivial;refine callsIn_of_wp Tryz.func136 rfl trivial ?_ rfl;simp only[Tryz.ntmps136,KB,Jz,JP,Nat.reduceAdd,Nat.reduceSub,KF,KG,KP,KK,Kl,Ka];gi_wp2;have U:x_ ((W.alloc (f_ #[i_ (c_ ⟨p,0,b_⟩)] 25)).heap[W.heap.size]?=c_ (f_ #[i_ (c_ ⟨p,0,b_⟩)] 25 (0,0))):=Z_ (r_ W _);have b3:=Z_ (ah W (f_ #[i_ (c_ ⟨p,0,b_⟩)] 25));have bd:=hJ _ _ _ h0 b3.o;generalize W.alloc (f_ #[i_ (c_ ⟨p,0,b_⟩)] 25)=W1 at*;obtain⟨b4,bf⟩:=N_ (W.heap.size);rw[<-bf]at U⊢;clear bf q0 r0 h0;obtain⟨cr,b5,bg,b6,t,D⟩:=hY [] (0,b4) W1 bd U.o (by simp);simp only[encS]at t;rw[t,Mj];refine⟨(λh=>by cases h),?_⟩;refine D.mono ?_;clear t D;rintro e W2 (⟨rfl,bk,bm⟩|⟨rfl,j⟩)
 rotate_left
 ·gi_wp2
  refine C_ (Mh rfl _ _ _) rfl ?_;exact⟨⟨_,rfl⟩,.inr ⟨_,by cases hl<;>simp[a7],j⟩⟩
 have ad:x_ (W2.heap[b4]?=c_ (f_ #[i_ (c_ ⟨p,0,b_⟩)] 25 (0,0))):=Z_ (bm.at U.o (.inl rfl));obtain⟨c2,-⟩:=aL ad.o;clear bd bm U;gi_wp2;obtain⟨W3,I⟩:∃X,X=W2:=⟨_,rfl⟩;rw[<-I]at bk ad⊢;clear I c2;replace bn:=bk;replace ak:=ad;obtain⟨ct,cb,bo,cc,t,D⟩:=hY ([]++[(0,b4)]) (1,b4) W3 bn ak.o (by simp);simp only[encS]at t;rw[t,Mj];refine⟨(λh=>by cases h),?_⟩;refine D.mono ?_;clear t D;rintro e W4 (⟨rfl,bp,bt⟩|⟨rfl,j⟩)
 rotate_left
 ·gi_wp2
  refine C_ (Mh rfl _ _ _) rfl ?_;exact⟨⟨_,rfl⟩,.inr ⟨_,by cases hl<;>simp[a7],j⟩⟩
 have av:x_ (W4.heap[b4]?=c_ (f_ #[i_ (c_ ⟨p,0,b_⟩)] 25 (0,0))):=Z_ (bt.at ak.o (.inl rfl));obtain⟨c4,-⟩:=aL av.o;clear bn bt ak;gi_wp2;obtain⟨W5,I⟩:∃X,X=W4:=⟨_,rfl⟩;rw[<-I]at bp av⊢;clear I c4;replace bx:=bp;replace a1:=av;obtain⟨cu,cd,bN,cf,t,D⟩:=hY (([]++[(0,b4)])++[(1,b4)]) (2,b4) W5 bx a1.o (by simp);simp only[encS]at t;rw[t,Mj];refine⟨(λh=>by cases h),?_⟩;refine D.mono ?_;clear t D;rintro e W6 (⟨rfl,Y,bO⟩|⟨rfl,j⟩)
 rotate_left
 ·gi_wp2
  refine C_ (Mh rfl _ _ _) rfl ?_;exact⟨⟨_,rfl⟩,.inr ⟨_,by cases hl<;>simp[a7],j⟩⟩
 have Z:x_ (W6.heap[b4]?=c_ (f_ #[i_ (c_ ⟨p,0,b_⟩)] 25 (0,0))):=Z_ (bO.at a1.o (.inl rfl));obtain⟨c6,-⟩:=aL Z.o;clear bx bO a1;obtain⟨st,F,hf,hh,bR,b0⟩:=b2 _ _ Y;have K:=uq W6 p st F hf bR b0 aK;rw[hh]at K;have M:=Z_ K;clear K hf bR b0 hh;cases hl
 ·gi_wp2_with (gi_at_call 41;refine(Kg.2 M.o).mono ?_;rintro e W7 ⟨rfl,O⟩)
  have a2:=hJ _ _ _ Y O
  go_end0
  exact⟨⟨_,rfl⟩,.inl ⟨_,by simp[a7],a2⟩⟩
 gi_wp2_with (gi_at_call 41;refine(Kg.2 M.o).mono ?_;rintro e W7 ⟨rfl,O⟩)
 have a2:=hJ _ _ _ Y O;have cg:x_ (W7.heap[b4]?=c_ (f_ #[i_ (c_ ⟨p,0,b_⟩)] 25 (0,0))):=Z_ ((O.block b4 (F_ Z.o)).trans Z.o);clear Y Z O M c6;obtain⟨cv,ch,b1,ck,t,D⟩:=hY ((([]++[(0,b4)])++[(1,b4)])++[(2,b4)]) (3,b4) W7 a2 cg.o (by simp);simp only[encS]at t;rw[t,Mj];refine⟨(λh=>by cases h),?_⟩;refine D.mono ?_;clear t D;rintro e W8 (⟨rfl,cl,cx⟩|⟨rfl,j⟩)
 rotate_left
 ·gi_wp2
  go_end0
  exact⟨⟨_,rfl⟩,.inr ⟨_,by simp[a7],j⟩⟩
 gi_wp2
 go_end0
 exact⟨⟨_,rfl⟩,.inl ⟨_,by simp[a7],cl⟩⟩
def aD(b:List UInt8):Nat->St->St×Int
 |0,st=>br st a6 b
 |1,st=>dG st a6
 |2,st=>db st a6 dj
 |_,st=>aF st aK 0
def ax(b:List UInt8):List Nat->St->St×Int
 |[],st=>(st,0)
 |k::ks,st=>if(aD b k st).2=0 then ax b ks (aD b k st).1 else aD b k st
theorem lQ:∀{D:List Nat} {st t:St},ax b D st=(t,0)->ax b (D++[k]) st=aD b k t
 |[],st,t,h=>by
  have:st=t:=J7 Prod.fst h;subst this;simp only[Kl,ax];split
  ·rename_i h2;exact Prod.ext rfl h2.symm
  rfl
 |j::D,st,t,h=>by
  rw[Ka];simp only[ax]at h⊢;split at h
  ·rename_i h2
   rw[G_ h2];exact lQ h
  rename_i h2
  exact absurd (J7 Prod.snd h) h2
theorem rm{j ms:List Nat}(hp:j<+:ms):∀{st:St},(ax b j st).2≠0->ax b ms st=ax b j st:=by
 obtain⟨r,rfl⟩:=hp
 induction j with
 |nil=>intro st h;exact absurd rfl h
 |cons k j t=>
  intro st h;simp only[Ka,ax]at h⊢;split
  ·rename_i h2
   rw[G_ h2]at h;exact t h
  rfl
theorem Calm.do{st:St}{fs:List af}(h:Calm st.files k d)(h2:Calm fs k d):Calm (cT st fs).1.files k d:=by
 unfold cT;split
 ·exact h
 exact h2
theorem lx{st:St}{f:af}(h:bH st s=.ok f):f∈st.files/\f.name=s/\bS s=true:=by
 unfold bH at h;split at h
 ·rename_i hn
  split at h
  ·rename_i g j
   cases h;exact⟨(aV j).1,(aV j).2,hn⟩
  cases h
 cases h
theorem lI{st:St}(h:Calm st.files k d):∀i,Calm (aD b i st).1.files (k+1) (d+b.length)
 |0=>by
  show Calm (br st a6 b).1.files _ _;unfold br;rw[G_ (by decide)];exact(h.mono O_ O_).do (h.app (by decide))
 |1=>by
  show Calm (dG st a6).1.files _ _;unfold dG;split
  ·exact h.mono O_ O_
  rename_i f j
  obtain⟨f1,f2,f3⟩:=lx j;exact(h.mono O_ O_).do ((h.mono L_ (Nat.le_add_right d b.length)).aq (h.names f f1) (by have:=h.data f f1;simp only;omega) L_)
 |2=>by
  show Calm (db st a6 dj).1.files _ _;unfold db;rw[G_ (by decide)];split
  ·exact h.mono O_ O_
  rename_i f j
  obtain⟨f1,f2,f3⟩:=lx j;exact(h.mono O_ O_).do (((h.mono L_ (Nat.le_add_right d b.length)).an a6).aq (by show bS dj=true;decide) (by have:=h.data f f1;simp only;omega) (h.safe f f1))
 |n+3=>by
  show Calm (aF st aK 0).1.files _ _;unfold aF;split
  ·exact h.mono O_ O_
  rename_i f j
  obtain⟨f1,f2,f3⟩:=lx j;split
  ·exact h.mono O_ O_
  exact(h.mono O_ O_).do ((h.mono L_ (Nat.le_add_right d b.length)).aq (h.names f f1) (by simp) (by simp))
theorem kE{st:St}{fs:List af}(h:st.aa<=9223372036854775807):(cT st fs).1.aa<=9223372036854775807:=by
 unfold cT;split
 ·exact h
 show dec st.aa<=_;unfold dec;split<;>omega
theorem iE{st:St}(h:st.aa<=9223372036854775807):∀i,(aD b i st).1.aa<=9223372036854775807
 |0=>by
  show(br st a6 b).1.aa<=_;unfold br;split
  ·exact kE h
  exact h
 |1=>by
  show(dG st a6).1.aa<=_;unfold dG;split
  ·exact h
  exact kE h
 |2=>by
  show(db st a6 dj).1.aa<=_;unfold db;split
  ·split
   ·exact h
   exact kE h
  exact h
 |n+3=>by
  show(aF st aK 0).1.aa<=_;unfold aF;split
  ·exact h
  split
  ·exact h
  exact kE h
theorem rh{x:af}{fs:List af}(h:x.name≠s):bV (aq af.name x fs) s=bV fs s:=by rw[dt,dt,dw h]
theorem Dm{t:List UInt8}{fs:List af}(h:s≠t):bV (an af.name t fs) s=bV fs s:=by rw[dt,dt,dJ h]
theorem ur{st:St}{fs:List af}(h:bV fs s=bV st.files s):bV (cT st fs).1.files s=bV st.files s:=by
 unfold cT;split
 ·rfl
 exact h
theorem rW{st:St}:∀i,bV (aD b i st).1.files aK=bV st.files aK
 |0=>by
  show bV (br st a6 b).1.files aK=_;unfold br;rw[G_ (by decide)];refine ur ?_;unfold eJ;refine rh ?_;split<;>(show a6≠aK;decide)
 |1=>by
  show bV (dG st a6).1.files aK=_;unfold dG;split
  ·rfl
  rename_i f j
  exact ur (rh (by show f.name≠aK;rw[(lx j).2.1];decide))
 |2=>by
  show bV (db st a6 dj).1.files aK=_;unfold db;rw[G_ (by decide)];split
  ·rfl
  rename_i f j
  exact ur ((rh (by show dj≠aK;decide)).trans (Dm (by decide)))
 |n+3=>by
  show bV (aF st aK 0).1.files aK=_;unfold aF;split
  ·rfl
  rename_i f j
  split
  ·rfl
  refine ur ?_;obtain⟨f1,f2,f3⟩:=lx j;have t:bV st.files aK=true:=by
   unfold bV;simp only[LQ];rw[<-f2];exact Kw f1
  rw[t,dt,<-f2];have:=eN (key:=af.name) ⟨f.name,f.data.take (0:Int).toNat,min f.safe (0:Int).toNat⟩ st.files;simp only at this⊢;rw[this];rfl
theorem Jw.kind{st:St}(h:Jw w p st F):∀k,F k->(∃cs t J,w.heap[k]?=c_ (f_ cs t J)/\(t=91\/t=105\/t=5))\/∃es clock,w.heap[k]?=c_ (Obj.map es clock):=by
 obtain⟨xs,M,-,j,rfl⟩:=h;rintro k (rfl|rfl|⟨x,hx,D⟩)
 ·exact .inl ⟨_,_,_,j.head,.inl rfl⟩
 ·obtain⟨es,clock,hm,-⟩:=j.map
  exact .inr ⟨es,clock,hm⟩
 have I:=j.files x hx;unfold aP at D;rcases JL.1 D with rfl|D
 ·exact .inl ⟨_,_,_,I.head,.inr (.inl rfl)⟩
 rcases I.row.2 with⟨e,-⟩|⟨g,cap,cur,e,_,K,_⟩
 ·rw[e]at D;simp[KT]at D
 rw[e]at D;have:k=g:=by simpa[KT]using D
 subst this;exact .inl ⟨_,_,_,K,.inr (.inr rfl)⟩
theorem Kept.ty{st:St}(h:Kept F w w')(J:Jw w p st F):zx w w':=⟨h.size,λk cs t V I K=>by
 refine h.block k (F_ I) λM=>?_
 rcases J.kind k M with⟨O,X,U,h1,h2⟩|⟨es,c,h1⟩
 ·rw[I]at h1
  cases h1;rcases K with j|j|j|j<;>rcases h2 with D|D|D<;>(rw[j]at D;exact absurd D (by decide))
 rw[I]at h1;cases h1⟩
theorem Jw.put{st:St}(h:Jw w p st F){l:Nat}{o t:Obj}(j:w.heap[l]?=c_ o)(hc:o.isCells=o_)(hw:o.isWalk=o_):Jw (w.putObj l t) p st F:=h.ae λk D=>by
 refine World.putObj_heap_other λe=>?_
 subst e;rcases h.kind k D with⟨I,K,J,h1,h2⟩|⟨es,c,h1⟩
 ·rw[j]at h1;cases h1;cases hc
 rw[j]at h1;cases h1;cases hw
theorem Kept.G7{st:St}(h:Kept F w w')(D:Jw w p st F)(q:Nat):kx q w w':=λr t=>by
 have no:∀(k:Nat) (o:Obj),w.heap[k]?=c_ o->o.isCells=o_->o.isWalk=o_->w'.heap[k]?=c_ o:=λk o j hc hw=>by
  refine(h.block k (F_ j) λI=>?_).trans j;rcases D.kind k I with⟨J,M,K,h1,h2⟩|⟨es,c,h1⟩
  ·rw[j]at h1;cases h1;cases hc
  rw[j]at h1;cases h1;cases hw
 exact⟨no _ _ t.loop rfl rfl,no _ _ t.calls rfl rfl⟩
theorem Ck(W:j_)(p b4 U n c:Nat)(A:Option Addr)(st:St)(F:Nat->Prop)(J:Jw W p st F)(b:List UInt8)(hn:b.length=n)(V:a8 (λk=>k<W.heap.size/\¬F k) W (a_ A n c) (l_ b))(hm:Modest st b.length)
  (X:CS p (0,b4) W) (Y:W.heap[U]?=c_ (f_ #[a_ A n c] 24 (0,0))):
  H_ h_ 137 #[i_ (c_ ⟨b4,0,b_⟩),i_ (c_ ⟨U,0,b_⟩)] W λe w'=>∃F',e=k_ (e_ d_ (aD b 0 st).2)/\Jw w' p (aD b 0 st).1 F'/\Kept F W w'/\aH W F F':=by
 obtain⟨c0,-⟩:=aL X;obtain⟨c1,-⟩:=aL Y;have hF:=Z_ J;have HB:=Z_ V;have HM:=Z_ hm;have K:=J.lt;have M:=Z_ K;have HN:=Z_ hn;clear J V hm X Y K hn;go_enter Tryz.func137,Tryz.ntmps137;go_wp2_with fail;have j:n_ W W (W.alloc (f_ #[a_ A n c] 24)):=ah W _;have t:al (Out (W.alloc (f_ #[a_ A n c] 24)) F) (W.alloc (f_ #[a_ A n c] 24)) (a_ (c_ ⟨W,0,b_⟩) 1 1) [b]:=by
  refine⟨[a_ A n c],rfl,⟨c_ ⟨W,0,b_⟩,1,rfl,by simp,by simp[JT],λ_=>⟨W,0,rfl,⟨by simp,λJ=>by have:=M.o _ J;omega⟩,λi hi=>?_⟩⟩,λi hi=>?_⟩
  ·have:i=0:=by simp at hi;omega
   subst this;simp
  have:i=0:=by simp at hi;omega
  subst this;exact HB.o.ae λk I=>⟨⟨by simp;omega,I.2⟩,j.block k I.1⟩
 have D:=qx _ p st F (hF.o.ae λk I=>j.block k (M.o k I)) ⟨#[110,101,120,116]⟩ (by decide) _ _ t (by
  rw[show [b].flatten.length=b.length by simp];exact HM.o)
 rw[show(Mz #[110,101,120,116]).data.toList=a6 from rfl,show [b].flatten=b by simp]at D;refine D.mono ?_;rintro e w4 ⟨F',rfl,h1,h2,Z⟩;have O:=Z_ (KM h1 (KM ((Kept.ar (F:=F) j).trans h2 (aH.refl _ _)) (show aH W F F' from λk I=>(Z k I).imp id (λh=>by have:=j.size;omega))));clear D t j h1 h2 Z;go_wp2;go_ret;exact⟨F',rfl,O.o.1,O.o.2.1,O.o.2.2⟩
theorem Cl(W:j_)(p b4:Nat)(st:St)(F:Nat->Prop)(D:Jw W p st F)(b:List UInt8)(j:st.aa<=9223372036854775807)(I:CS p (1,b4) W):
  H_ h_ 138 #[i_ (c_ ⟨b4,0,b_⟩)] W λe w'=>∃F',e=k_ (e_ d_ (aD b 1 st).2)/\Jw w' p (aD b 1 st).1 F'/\Kept F W w'/\aH W F F':=by
 obtain⟨c0,-⟩:=aL I;have K:=Z_ (xI W p st F D ⟨#[110,101,120,116]⟩ (by decide) j);clear D I j;go_enter Tryz.func138,Tryz.ntmps138;go_wp2_with fail;refine K.o.mono ?_;rintro e M ⟨F',rfl,h1,h2,J⟩;have t:=Z_ (KM h1 (KM h2 J));clear h1 h2 J;go_wp2;go_ret;exact⟨F',rfl,t.o.1,t.o.2.1,t.o.2.2⟩
theorem Cm(W:j_)(p b4:Nat)(st:St)(F:Nat->Prop)(I:Jw W p st F)(b:List UInt8)(j:st.aa<=9223372036854775807)(t:st.files.length<2147483648)(J:CS p (2,b4) W):
  H_ h_ 139 #[i_ (c_ ⟨b4,0,b_⟩)] W λe w'=>∃F',e=k_ (e_ d_ (aD b 2 st).2)/\Jw w' p (aD b 2 st).1 F'/\Kept F W w'/\aH W F F':=by
 obtain⟨c0,-⟩:=aL J;have M:=Z_ (yV W p st F I ⟨#[110,101,120,116]⟩ ⟨#[98,97,115,101]⟩ (by decide) (by decide) j t);clear I J j t;go_enter Tryz.func139,Tryz.ntmps139;go_wp2_with fail;refine M.o.mono ?_;rintro e O ⟨F',rfl,h1,h2,K⟩;have D:=Z_ (KM h1 (KM h2 K));clear h1 h2 K;go_wp2;go_ret;exact⟨F',rfl,D.o.1,D.o.2.1,D.o.2.2⟩
theorem Cn(W:j_)(p b4 n:Nat)(st:St)(F:Nat->Prop)(D:Jw W p st F)(b:List UInt8)(j:st.aa<=9223372036854775807)(I:CS p (n+3,b4) W):
  H_ h_ 141 #[i_ (c_ ⟨b4,0,b_⟩)] W λe w'=>∃F',e=k_ (e_ d_ (aD b (n+3) st).2)/\Jw w' p (aD b (n+3) st).1 F'/\Kept F W w'/\aH W F F':=by
 obtain⟨c0,-⟩:=aL I;have K:=Z_ (ka W p st F D ⟨#[108,111,103]⟩ (by decide) j 0);clear D I j;go_enter Tryz.func141,Tryz.ntmps141;go_wp2_with fail;refine K.o.mono ?_;rintro e M ⟨F',rfl,h1,h2,J⟩;have t:=Z_ (KM h1 (KM h2 J));clear h1 h2 J;go_wp2;go_ret;exact⟨F',rfl,t.o.1,t.o.2.1,t.o.2.2⟩
theorem Cq(w:j_)(pj n c:Nat)(A:Option Addr):H_ h_ 109 #[i_ (c_ ⟨pj,0,b_⟩),a_ A n c] w λe w'=>e=k_ (.func (.func 136) #[] #[i_ (c_ ⟨w,0,b_⟩),i_ (c_ ⟨w+1,0,b_⟩)])/\
  w'=(w.alloc (f_ #[i_ (c_ ⟨pj,0,b_⟩)] 27)).alloc (f_ #[a_ A n c] 24):=by
 go_enter Tryz.func109,Tryz.ntmps109;go_wp2;go_ret;exact⟨rfl,rfl⟩
def bE(g:Nat)(ps:List (List UInt8)):List UInt8:=(ps.map (aw g)).flatten
theorem Dc(g:Nat):bE g []=[]:=rfl
theorem dr(g:Nat)(p:List UInt8)(ps:List (List UInt8)):bE g (p::ps)=aw g p++bE g ps:=by simp[bE]
theorem kF(g:Nat)(a b:List (List UInt8)):bE g (a++b)=bE g a++bE g b:=by simp[bE]
theorem lr(g:Nat)(a:List (List UInt8))(p:List UInt8):bE g (a++[p])=bE g a++aw g p:=by simp[bE]
def sz(g:Nat):Nat->List (List UInt8)->List Fr
 |_,[]=>[]
 |i,p::ps=>⟨g,p,i,i+12+p.length⟩::sz g (i+12+p.length) ps
theorem wh(g:Nat):∀(i:Nat) (ps:List (List UInt8)),(sz g i ps).map Fr.aJ=ps
 |_,[]=>rfl
 |i,p::ps=>by simp[sz,wh g _ ps]
theorem we(g:Nat):∀(i:Nat) (ps:List (List UInt8)),∀x∈sz g i ps,x.gen=g
 |_,[]=>by simp[sz]
 |i,p::ps=>by
  intro x hx;rcases JL.1 hx with rfl|hx
  ·rfl
  exact we g _ ps x hx
theorem qZ(g:Nat):∀(i:Nat) (ps:List (List UInt8)),(sz g i ps).length=ps.length
 |_,[]=>rfl
 |i,p::ps=>by simp[sz,qZ g _ ps]
theorem zZ(g:Nat):∀(i:Nat) (ps:List (List UInt8)),((sz g i ps).getLast?.map Fr.stop).getD i=i+(bE g ps).length
 |i,[]=>by simp[sz,bE]
 |i,p::ps=>by
  have h:=zZ g (i+12+p.length) ps;rw[dr,p_,bc];cases hp:sz g (i+12+p.length) ps with
  |nil=>
   rw[hp]at h;simp[sz,hp]at h⊢;have:ps=[]:=JH (by rw[<-qZ g (i+12+p.length) ps,hp];rfl);subst this;simp[bE];omega
  |cons y t=>
   rw[hp]at h;rw[show sz g i (p::ps)=⟨g,p,i,i+12+p.length⟩::sz g (i+12+p.length) ps from rfl,hp,List.getLast?_cons_cons];cases j:(y::t).getLast? with
   |none=>simp at j
   |some z=>
    rw[j]at h;simp at h⊢;omega
theorem te(g:Nat)(p r:List UInt8):aw g p++r=cy g++(cy p.length++(cy (mQ (cy g++cy p.length++p))++(p++r))):=by simp[aw]
theorem jy(a x:List UInt8)(k:Nat):(a++x).drop (a.length+k)=x.drop k:=by rw[<-LM];simp
theorem yq{r:List UInt8}{p:List UInt8}(t:g<4294967296)(hp:p.length<=65536)(j:b=a++(aw g p++r)):dE b a.length=c_ ⟨g,p,a.length,a.length+12+p.length⟩:=by
 have hC:=qL (cy g++cy p.length++p);have D:b.length=a.length+(12+p.length+r.length):=by rw[j,p_,p_,bc]
 have hx:b=a++(cy g++(cy p.length++(cy (mQ (cy g++cy p.length++p))++(p++r)))):=by rw[j,te]
 have d0:b.drop a.length=cy g++(cy p.length++(cy (mQ (cy g++cy p.length++p))++(p++r))):=by
  have:=jy a (cy g++(cy p.length++(cy (mQ (cy g++cy p.length++p))++(p++r)))) 0;rw[<-hx]at this;simpa using this
 have d4:b.drop (a.length+4)=cy p.length++(cy (mQ (cy g++cy p.length++p))++(p++r)):=by rw[hx,jy];rfl
 have d8:b.drop (a.length+8)=cy (mQ (cy g++cy p.length++p))++(p++r):=by rw[hx,jy];rfl
 have d12:b.drop (a.length+12)=p++r:=by rw[hx,jy];rfl
 have I:cj (b.drop (a.length+4))=p.length:=by rw[d4,iB _ O_]
 have n8:cj (b.drop (a.length+8))=mQ (cy g++cy p.length++p):=by rw[d8,iB _ hC]
 have J:cj (b.drop a.length)=g:=by rw[d0,iB _ t]
 have t8:(b.drop a.length).take 8=cy g++cy p.length:=by rw[d0];rfl
 have K:(b.drop (a.length+12)).take p.length=p:=by rw[d12];simp
 unfold dE;rw[I,n8,J,t8,K,I_ O_,I_ O_,I_ (by simp)]
theorem BH:∀(l t:List UInt8),4<=l.length->cj (l++t)=cj l
 |_::_::_::_::_,_,_=>rfl
 |[],_,h|[_],_,h|[_,_],_,h|[_,_,_],_,h=>by simp at h
theorem yr{p:List UInt8}(hp:p.length<=65536)(I:q<+:aw g p)(V:q.length<12+p.length)(D:b=a++q):dE b a.length=none:=by
 have J:b.length=a.length+q.length:=by rw[D,p_]
 unfold dE;by_cases j:b.length<a.length+12
 ·rw[G_ j]
 rw[I_ j];obtain⟨t,K⟩:=I;have d4:b.drop (a.length+4)=q.drop 4:=by rw[D,jy]
 have M:cj (q.drop 4)=p.length:=by
  have O:cj (q.drop 4++t)=cj (q.drop 4):=BH _ _ (by simp;omega);have U:q.drop 4++t=(aw g p).drop 4:=by rw[<-K,List.drop_append_of_le_length O_]
  rw[<-O,U];have:(aw g p).drop 4=cy p.length++(cy (mQ (cy g++cy p.length++p))++(p++[])):=by
   have h:=te g p [];rw[La]at h;rw[h];rfl
  rw[this,iB _ O_]
 rw[d4,M,G_ (.inr O_)]
theorem wj{b:List UInt8}(D:g<4294967296):∀(ps:List (List UInt8)) (a q:List UInt8) (f i:Nat),b=a++(bE g ps++q)->i=a.length->(∀p∈ps,p.length<=65536)->ps.length<f->
  (kp b f i).map (·.1)=sz g i ps++(kp b (f - ps.length) (i+(bE g ps).length)).map (·.1)
 |[],a,q,f,i,j,hi,hp,t=>by simp[sz,bE]
 |p::ps,a,q,f,i,j,hi,hp,t=>by
  obtain⟨f,rfl⟩:∃J,f=J+1:=⟨f - 1,by simp at t;omega⟩;have hx:dE b i=c_ ⟨g,p,i,i+12+p.length⟩:=by
   rw[hi];exact yq D (hp p (by simp)) (r:=bE g ps++q) (by rw[j,dr];simp)
  rw[oa hx,Ks];have I:=wj (b:=b) D ps (a++aw g p) q f (i+12+p.length) (by rw[j,dr];simp) (by rw[p_,bc];omega) (λy K=>hp y (by simp[K])) (by simp at t;omega);simp only at I⊢;rw[I,show f+1 - (p::ps).length=f - ps.length by simp,dr,p_,bc,show i+(12+p.length+(bE g ps).length)=i+12+p.length+(bE g ps).length by omega];rfl
theorem mm(g:Nat):∀ps:List (List UInt8),ps.length<=(bE g ps).length
 |[]=>by simp
 |p::ps=>by rw[dr,p_,bc,Jz];have:=mm g ps;omega
theorem z8(t:g<4294967296){ps:List (List UInt8)}(j:b=bE g ps++q)(hp:∀p∈ps,p.length<=65536)(hn:dE b (bE g ps).length=b_):(dM b).map (·.1)=sz g 0 ps:=by
 have hc:=mm g ps;have h:=wj (b:=b) t ps [] q (b.length+1) 0 j rfl hp (by rw[j,p_];omega);unfold dM;rw[h,Lp,ik hn];simp
theorem vZ{i:Nat}(h:b.length<=i):dE b i=none:=by unfold dE;rw[G_ O_]
section
variable{b:List UInt8}
variable{g:Nat}{ps:List (List UInt8)}
theorem wN{l:List (cH b)}(h:l.map (·.1)=sz g 0 ps):dR l=ps:=by
 have:dR l=(l.map (·.1)).map Fr.aJ:=by simp[dR]
 rw[this,h,wh]
theorem tc{l:List (cH b)}(h:l.map (·.1)=sz g 0 ps):bD l=(bE g ps).length:=by
 have:bD l=((l.map (·.1)).getLast?.map Fr.stop).getD 0:=by unfold bD;rw[List.getLast?_map,Option.map_map];rfl
 rw[this,h,zZ];omega
theorem re{l:List (cH b)}(h:l.map (·.1)=sz g 0 ps):∀x∈l,x.1.gen=g:=λx hx=>
 we g 0 ps x.1 (h▸Kw hx)
end
variable{g:Nat}{ps:List (List UInt8)}{b:List UInt8}
theorem yb(J:g<4294967296)(hp:∀p∈ps,p.length<=65536)(K:ps.length<4294967296):bP (bE g (cy ps.length::ps))=c_ (g,ps):=by
 have h:=z8 (b:=bE g (cy ps.length::ps)) (q:=[]) J (La _).symm (λp t=>by
  rcases JL.1 t with h0|h0
  ·rw[h0,ep];omega
  exact hp p h0) (vZ L_)
 have h1:=wN h;have h2:=tc h;have j:=re h;unfold bP
 revert h1 h2 j
 cases dM (bE g (cy ps.length::ps))with
 |nil=>intro h1;simp[dR]at h1
 |cons x xs=>
  intro h1 h2 j;simp only[dR,Ks,List.cons.injEq]at h1;obtain⟨I,M⟩:=h1;have hx:=j x (by simp);have D:xs.length=ps.length:=by have:=J7 List.length M;rw[KL]at this;exact this
  have hn:cj x.1.aJ=ps.length:=by rw[I];have:=iB ps.length K [];rwa[La]at this
  simp only;rw[G_ ⟨by rw[I];rfl,λy O=>by rw[hx,j y (by simp[O])],h2,by rw[hn,D]⟩,hx]
  congr 2
theorem sH{gen:Nat}{l:List (cH b)}(h:l.map (·.1)=sz g 0 ps)(j:g≠gen):aU gen l=[]:=by
 cases l with
 |nil=>rfl
 |cons x l=>
  have:=re h x (by simp);unfold aU;rw[Mn,I_ (by simp;omega)]
theorem rZ{α:Type}(l:List α){m k:Nat}(h:m<=k)(j:k<=l.length):∃r,l.take k=l.take m++r/\r.length=k - m:=by
 refine⟨(l.take k).drop m,?_,by simp;omega⟩;have:=KJ m (l.take k);rw[List.take_take,K2 h]at this;exact this.symm
theorem wi(g:Nat):∀(ps:List (List UInt8)) (n:Nat),n<=(bE g ps).length->∃m q,m<=ps.length/\(bE g ps).take n=bE g (ps.take m)++q/\(q=[]\/∃p,ps[m]?=c_ p/\q<+:aw g p/\q.length<12+p.length)
 |[],n,h=>⟨0,[],by simp,by simp[bE],.inl rfl⟩
 |p::ps,n,h=>by
  rw[dr,p_,bc]at h;by_cases hn:n<12+p.length
  ·refine⟨0,(aw g p).take n,by simp,?_,.inr ⟨p,rfl,List.take_prefix _ _,by simp;omega⟩⟩
   rw[dr,List.take_append_of_le_length (by rw[bc];omega)];simp[bE]
  obtain⟨m,q,h1,h2,j⟩:=wi g ps (n - (12+p.length)) O_;refine⟨m+1,q,by simp;omega,?_,?_⟩
  ·rw[dr,List.take_append,bc,Kq (by rw[bc];omega),h2,List.take_succ_cons,dr,JU]
  simpa using j
theorem Bs(V:g<4294967296)(hp:∀p∈ps,p.length<=65536){n:Nat}(hn:n<=(bE g ps).length)(D:b=(bE g ps).take n):
  ∃m,m<=ps.length/\(dM b).map (·.1)=sz g 0 (ps.take m)/\(bE g (ps.take m)).length<=n/\(∀k,k<=ps.length->(bE g (ps.take k)).length<=n->k<=m):=by
 obtain⟨m,q,h1,h2,K⟩:=wi g ps n hn;have hlen:=J7 List.length h2;rw[JN,p_,K2 hn]at hlen;refine⟨m,h1,z8 V (q:=q) (by rw[D,h2]) (λp I=>hp p (List.mem_of_mem_take I)) ?_,by omega,λk M t=>?_⟩
 ·rcases K with rfl|⟨p,J,O,U⟩
  ·exact vZ (by rw[D,h2];simp)
  exact yr (hp p (List.mem_of_getElem? J)) O U (by rw[D,h2])
 rcases Nat.lt_or_ge m k with j|j
 ·exfalso
  have hm:m<ps.length:=by omega
  rcases K with rfl|⟨p,J,O,U⟩
  ·obtain⟨r,e,Y⟩:=rZ ps (Nat.le_of_lt j) M
   rw[e,kF,p_]at t;have:=mm g r;simp at hlen;omega
  have e:ps.take (m+1)=ps.take m++[p]:=by rw[List.take_add_one,J];rfl
  obtain⟨r,X,-⟩:=rZ ps (Nat.succ_le_of_lt j) M;rw[X,kF,p_,e,lr,p_,bc]at t;omega
 exact j
