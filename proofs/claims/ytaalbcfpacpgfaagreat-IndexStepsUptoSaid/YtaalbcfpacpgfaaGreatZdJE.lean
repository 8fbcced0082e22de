import Derived.Deep.CutRange
import Derived.Test.YtaalbcfpacpgfaaGreatZdJD
set_option linter.all false
set_option maxHeartbeats 16000000
set_option maxRecDepth 100000
open And renaming intro->KM
open Bool renaming false->o_
open ByteArray renaming mk->Mz
open Go renaming Calls->H_,Value->m_,World->j_,undef->q_
open Go.Ending renaming returned->k_
open Go.IntKind renaming i64->d_,u32->KW
open Go.Lib renaming byteCells->l_
open Go.Obj renaming cells->f_
open Go.Proofs.Tryz renaming prog->h_
open Go.RowKit renaming Below->n_,Hid->x_
open Go.Value renaming int->e_,pointer->i_,slice->a_,string->g_
open Go.World renaming setCell->Kd
open Nat renaming reduceAdd->KR
open Option renaming none->b_,some->c_
namespace Go.Proofs.YtaalbcfpacpgfaaGreat
open Go.RowKit Go.Lib Go.Vfs Go.Par Go.Shelf
attribute [local go_sem] Oper.semAt_some
theorem za{S:Nat->Prop}{w:j_}{v:m_}{xs:List m_}(h:a8 S w v xs):a8 (λk=>S k/\∃o,w.heap[k]?=c_ o/\o.isCells=true) w v xs:=by
 obtain⟨A,c,h1,h2,j,t⟩:=h;refine⟨A,c,h1,h2,j,λhl=>?_⟩;obtain⟨b,off,e,D,hc⟩:=t hl;refine⟨b,off,e,⟨D,?_⟩,hc⟩;have:=hc 0 hl;rw[w_ hl]at this;exact cells_of_cell this
def GF(W:j_)(pj B:Nat)(u:m_)(k:Nat):Prop:=k=pj\/u.ownBlock=c_ k\/(B<=k/\u.ownBlock≠c_ k/\∃o,W.heap[k]?=c_ o/\o.isCells=true)
theorem JV.fresh{W:j_}{pj p gen B:Nat}{u:m_}{us:List m_}{rows:List (List UInt8)}(j:W.heap[pj]?=c_ (f_ #[i_ (c_ ⟨p,0,b_⟩),e_ KW (gen:Nat),u,a_ b_ 0 0] 95 (0,0)))
  (t:Par.Own W B 24 u us) (hl:us.length=rows.length) (M:pj<B) (hc:∀i,i<rows.length->a8 (λk=>B<=k/\u.ownBlock≠c_ k) W (us.getD i (.bool o_)) (l_ (rows.getD i []))) (J:gen<4294967296):
  JV W pj p gen u (a_ b_ 0 0) us [] rows [] (GF W pj B u):=by
 have I:=t.lt;refine⟨j,?_,Mf W 0 24 1,λi hi=>(za (hc i hi)).ae λk ⟨⟨h1,h2⟩,K⟩=>⟨⟨.inr (.inr ⟨h1,h2,K⟩),by omega,h2,λe=>by cases e⟩,rfl⟩,λi hi=>by simp at hi,.inl rfl,λg e=>⟨.inr (.inl e),by have:=I g e;omega⟩,λg e=>by simp[Value.ownBlock]at e,λk D=>?_,J⟩
 ·have:=t.base (Km B)
  unfold Par.Own at this;rwa[hl]at this
 rcases D with rfl|D|⟨-,-,D⟩
 ·exact⟨_,j,rfl⟩
 ·exact jZ t k D
 exact D
def vS(bB:Nat)(x:Nat×Nat):m_:=match x.1 with
 |0=>.func (.func 137) #[] #[i_ (c_ ⟨x.2,0,b_⟩),i_ (c_ ⟨bB,0,b_⟩)]
 |1=>.func (.func 138) #[] #[i_ (c_ ⟨x.2,0,b_⟩)]
 |2=>.func (.func 139) #[] #[i_ (c_ ⟨x.2,0,b_⟩)]
 |_=>.func (.func 141) #[] #[i_ (c_ ⟨x.2,0,b_⟩)]
theorem zT(j:Nat)(x:Nat×Nat):encS j x=#[vS j x]:=by
 obtain⟨i,b⟩:=x
 match i with
 |0|1|2|_+3=>rfl
structure mG(w1:j_)(p:Nat)(st:St)(F:Nat->Prop)(b:List UInt8)(k d:Nat)(hl:Bool)(pre:List (Nat×Nat))(W:j_):Prop where
 len:pre.length<=4
 run:∃st' F',ax b (pre.map (·.1)) st=(st',0)/\Jw W p st' F'/\Calm st'.files (k+pre.length) (d+pre.length*b.length)/\st'.aa<=9223372036854775807/\bV st'.files aK=hl/\Kept F w1 W/\aH w1 F F'
def FZ(w1:j_)(p:Nat)(st:St)(F:Nat->Prop)(b:List UInt8)(bR:Nat)(cd:Code)(pre:List (Nat×Nat))(W:j_):Prop:=
 cd=.ret/\∃st' F' er,er≠0/\ax b (pre.map (·.1)) st=(st',er)/\Jw W p st' F'/\Kept (λk=>F k\/k=bR) w1 W/\aH w1 F F'/\W.heap[bR]?=c_ (f_ #[e_ d_ er] 28 (0,0))
section
variable{w1:j_}{p:Nat}{st:St}{F:Nat->Prop}{b:List UInt8}{k d bR:Nat}{hl:Bool}
theorem Dt:GV (mG w1 p st F b k d hl):=λs W W' ⟨h1,j,F',h2,D,I,J,K,M,O⟩ t=>⟨h1,j,F',h2,D.below t,I,J,K,M.trans' (Kept.ar t),O⟩
theorem rj{F:Nat->Prop}{a w:j_}(h:Kept F a w){l:Nat}(hl:a<=l)(o:Obj):Kept F a (w.putObj l o):=
 ⟨h.os,h.tape,h.output,by have:=h.size;simpa using this,λk j hn=>(World.putObj_heap_other O_).trans (h.block k j hn)⟩
theorem Du:FV w1 (mG w1 p st F b k d hl):=λs W r U j ⟨h1,t,F',h2,D,I,J,K,M,O⟩=>⟨h1,t,F',h2,D.put j.loop rfl rfl,I,J,K,rj M O_ _,O⟩
theorem Dv{I:Code}:GV (FZ w1 p st F b bR I):=λs W W' ⟨h0,j,F',er,h1,h2,J,K,M,D⟩ t=>⟨h0,j,F',er,h1,h2,J.below t,K.trans' (Kept.ar t),M,(t.block bR (F_ D)).trans D⟩
theorem Dw{D:Code}(O:bR<w1):FV w1 (FZ w1 p st F b bR D):=λs W r U j ⟨h0,t,F',er,h1,h2,I,J,K,M⟩=>⟨h0,t,F',er,h1,h2,I.put j.loop rfl rfl,rj J O_ _,K,(World.putObj_heap_other O_).trans M⟩
theorem mG.rs{W:j_}(h:∃pre,mG w1 p st F b k d hl pre W)(J:k<=1000):RS p hl W:=by
 obtain⟨pre,h1,j,F',h2,D,t,K,I,M,O⟩:=h;exact⟨j,F',D,I,by have:=t.files;omega,t.short⟩
theorem Gf:FV w1 (CS p):=λs W r t j h=>by
 unfold CS at*;exact(World.putObj_heap_other (λe=>by rw[e,j.loop]at h;cases h)).trans h
theorem Fq{W:j_}{q:Nat}{r D:Loop}(h:gA q r W):zx W (W.putObj (q+1) (.loop D)):=⟨by simp,λk cs t I j _=>World.putObj_heap_other (λe=>by rw[e,h.loop]at j;cases j)⟩
theorem mG.next{pre:List (Nat×Nat)}{W W':j_}{x:Nat×Nat}{t:St}{F' I:Nat->Prop}(hlen:pre.length<4)(h2:ax b (pre.map (·.1)) st=(t,0))(h3:Jw W p t F')(X:Calm t.files (k+pre.length) (d+pre.length*b.length))(Y:t.aa<=9223372036854775807)(Z:bV t.files aK=hl)(D:Kept F w1 W)(V:aH w1 F F')
  (hf:Jw W' p (aD b x.1 t).1 I) (J:Kept F' W W') (hg:aH W F' I):
  aH w1 F I/\Kept F w1 W'/\ax b ((pre++[x]).map (·.1)) st=aD b x.1 t/\((aD b x.1 t).2=0->mG w1 p st F b k d hl (pre++[x]) W'):=by
 have K:aH w1 F I:=λj hj=>by
  rcases hg j hj with h|h
  ·exact V j h
  right;have:=D.size;omega
 have M:Kept F w1 W':=⟨J.os.trans D.os,J.tape.trans D.tape,J.output.trans D.output,Kj D.size J.size,λj hj hn=>by
  refine(J.block j (by have:=D.size;omega) λU=>?_).trans (D.block j hj hn);rcases V j U with h|h
  ·exact hn h
  omega⟩
 have O:ax b ((pre++[x]).map (·.1)) st=aD b x.1 t:=by rw[Lb];exact lQ h2
 refine⟨K,M,O,λh0=>⟨by simp;omega,(aD b x.1 t).1,I,O.trans (Prod.ext rfl h0),hf,(lI X x.1).mono (by simp;omega) (by rw[p_,Kt,Nat.add_mul];omega),iE Y x.1,(rW x.1).trans Z,M,K⟩⟩
end
variable{w W:j_}{pj p gen q bR:Nat}{base log:List (List UInt8)}{F F' G:Nat->Prop}{o:Obj}
theorem dO.laid{M:j_}{Z:Nat}{st ad:St}{rows:List (List UInt8)}{u bv lv x:m_}{U bs us:List m_}{cs:Array m_}{ds:Option (List Deferred)}(h:JF w pj p st gen base log F G)(hj:JV w pj p gen bv lv bs us base log G)
  (hf:Jw W p ad F') (hk:Kept F w W) (hg:aH w F F') (hr:Rowed (W.setCell ⟨pj,1,b_⟩ (e_ KW (Z:Nat))) rows rows.length u U M) (a2:Z<4294967296)
  (bm:w<=bR) (V:W.heap[bR]?=c_ (f_ cs 28 (0,0))) (hq:w<=q) (X:W.heap[q]?=c_ (.deferred ds)):
  dO w pj p F G ad Z rows [] ((((M.setCell ⟨pj,2,b_⟩ u).setCell ⟨pj,3,b_⟩ (a_ b_ 0 0)).setCell ⟨bR,0,b_⟩ x).putObj q o):=by
 have ba:pj<w:=hj.lt pj hj.jJ;have ak:¬F pj:=h.apart pj hj.jJ;have bn:=hk.size;have D:(W.setCell ⟨pj,1,b_⟩ (e_ KW (Z:Nat))).heap.size=W.heap.size:=by simp[Kd]
 have bb:=hr.below.size;rw[D]at bb;obtain⟨Wf,t⟩:=N_ (((((M.setCell ⟨pj,2,b_⟩ u).setCell ⟨pj,3,b_⟩ (a_ b_ 0 0)).setCell ⟨bR,0,b_⟩ x).putObj q o));have bo:Wf.heap.size=M.heap.size:=by rw[t];simp[Kd]
 have same:∀k,k≠pj->k≠bR->k≠q->Wf.heap[k]?=M.heap[k]?:=λk h1 h2 h3=>by
  rw[t,World.putObj_heap_other h3,ab h2,ab h1,ab h1]
 have gu:∀k,k<W.heap.size->k≠pj->M.heap[k]?=W.heap[k]?:=λk h1 h2=>(hr.below.block k (by rw[D];exact h1)).trans (ab h2)
 have J:=(hk.block pj ba ak).trans hj.head;have K:=(hr.below.block pj (by rw[D];omega)).trans (dQ J (e_ KW (Z:Nat))).1;have Y:Wf.heap[pj]?=c_ (f_ #[i_ (c_ ⟨p,0,b_⟩),e_ KW (Z:Nat),u,a_ b_ 0 0] 95 (0,0)):=by
  rw[t,World.putObj_heap_other O_,ab (by show pj≠bR;omega)];exact(dQ (dQ K u).2.1 (a_ b_ 0 0)).2.2
 have av:∀k,F' k->k≠pj/\k≠bR/\k≠q:=λk j=>by
  refine⟨λe=>?_,λe=>?_,λe=>?_⟩
  ·subst e
   rcases hg _ j with h1|h1
   ·exact ak h1
   omega
  ·subst e
   rcases hf.kind _ j with⟨bd,t',bf,h1,h2⟩|⟨es,c,h1⟩
   ·rw[V]at h1;cases h1;revert h2;decide
   rw[V]at h1;cases h1
  subst e;rcases hf.kind _ j with⟨bd,t',bf,h1,h2⟩|⟨es,c,h1⟩
  ·rw[X]at h1;cases h1
  rw[X]at h1;cases h1
 have bk:=F_ V;have bp:=F_ X;have O:∀k,W.heap.size<=k->Wf.heap[k]?=M.heap[k]?:=λk j=>same k O_ O_ O_
 have I:Par.Own Wf W 24 u U:=by
  have h1:=hr.own;rw[D]at h1;unfold Par.Own at*;exact aO h1 (λg e=>O g (Own.lt (show Par.Own M W 24 u U from h1) g e).1)
 have bg:=JV.fresh (B:=W.heap.size) Y I hr.len O_ (λi hi=>(hr.cells i hi).ae λk j=>⟨⟨by rw[D]at j;exact j.1,j.2.2⟩,O k (by rw[D]at j;exact j.1)⟩) a2;rw[<-t];refine⟨F',_,⟨hf.ae λk j=>?_,⟨_,_,_,_,bg⟩,λk j a1=>?_⟩,⟨?_,?_,?_,by omega,λk j hn=>?_⟩,hg,λk j=>?_⟩
 ·obtain⟨h1,h2,h3⟩:=av k j
  rw[same k h1 h2 h3,gu k (hf.lt k j) h1]
 ·have bt:=hf.lt k a1
  rcases j with rfl|j|⟨j,-⟩
  ·exact(av _ a1).1 rfl
  ·have:=(Own.lt I k j).1;omega
  omega
 ·rw[t];exact hr.below.os.trans hk.os
 ·rw[t];exact hr.below.tape.trans hk.tape
 ·rw[t];exact hr.below.output.trans hk.output
 ·rw[same k (λe=>hn (.inr (e▸hj.jJ))) O_ O_,gu k O_ (λe=>hn (.inr (e▸hj.jJ)))]
  exact hk.block k j (λbj=>hn (.inl bj))
 rcases j with rfl|j|⟨j,-⟩
 ·exact .inl hj.jJ
 ·right;have:=(Own.lt I k j).1;omega
 right;omega
theorem dO.left{st t:St}{ds:Option (List Deferred)}(h:JF w pj p st gen base log F G)
  (M:Jw W p t F') (D:Kept (λk=>F k\/k=bR) w W) (K:aH w F F') (O:w<=bR) (U:w<=q) (J:W.heap[q]?=c_ (.deferred ds)):
  dO w pj p F G t gen base log (W.putObj q o):=by
 have I:Kept F w W:=⟨D.os,D.tape,D.output,D.size,λk h1 h2=>D.block k h1 (λj=>by rcases j with j|j;exact h2 j;omega)⟩;refine⟨F',G,⟨M.put J rfl rfl,h.js.block λk h1=>?_,λk h1 h2=>?_⟩,(rj I U o).mono λk _ h1=>.inl h1,K,aH.refl _ _⟩
 ·have:=h.js.lt k h1
  rw[World.putObj_heap_other O_];exact I.block k this (h.apart k h1)
 rcases K k h2 with j|j
 ·exact h.apart k h1 j
 have:=h.js.lt k h1;omega
theorem Dp{st:St}(h:JF w pj p st gen base log F G)(v:m_)(rows:List (List UInt8))(hv:al (λk=>k<w.heap.size/\¬F k/\¬G k) w v rows)(hr:∀l∈rows,l.length<=65536)(hy:rows.length<=20000)(hg:gen+1<4294967296)
  (hE:(bE (gen+1) (cy rows.length::rows)).length<=900000) {kf d:Nat} (hc:Calm st.files kf d) (eo:kf<=1000) (hd:d<=2000000) (ev:st.aa<=9223372036854775807):
  H_ h_ 64 #[i_ (c_ ⟨pj,0,b_⟩),v] w λe w'=>∃r,ax (bE (gen+1) (cy rows.length::rows)) (a7 (bV st.files aK)) st=r/\e=k_ (e_ d_ r.2)/\
   dO w pj p F G r.1 (if r.2=0 then gen+1 else gen) (if r.2=0 then rows else base) (if r.2=0 then []else log) w':=by
 have HH:=Z_ h;obtain⟨hf,⟨bv,lv,bs,us,hj⟩,eA⟩:=h;obtain⟨⟨c0,c1,c2,c3⟩,-⟩:=hj.cells;have hA:=hj.ra;have HJ:=Z_ hj;have HF:=Z_ hf;have bd:x_ (pj<w.heap.size/\¬F pj):=Z_ ⟨hj.lt _ hj.jJ,eA pj hj.jJ⟩;have HC:=Z_ hc;have HR:=Z_ hr;have HE:=Z_ hE;have HV:=Z_ hv;have HB:=Z_ (KM eo (KM hd ev));obtain⟨A,c,rfl,hB,hm,HA⟩:=(hv.sub (S':=(·<w.heap.size)) λk hk=>hk.1).open_;clear hf hj eA hc hr hE hv eo hd ev;refine(Kg (n:=7)).1 ?_;refine callsIn_of_wp_marks Tryz.func64 rfl trivial ?_ rfl;simp only[Tryz.ntmps64,KB,Jz,JP,KR,Nat.reduceSub,KF,KG,KP,KK,Kl,Ka];refine wpIn_wide.2 ?_;go_wp2;obtain⟨W0,b2⟩:=N_ (w.alloc (f_ #[e_ d_ 0] 28));rw[<-b2];have hF:=Z_ b2;have eC:W0.heap.size=w.heap.size+1:=by rw[b2];simp
 have e0:n_ w w W0:=by rw[b2];exact ah w _
 have e1:=Z_ e0;have b3:=Z_ eC;clear b2 e0 eC
 go_loopw [15] (λi wr=>∃k n:Nat,k<=rows.length/\i=e_ d_ k/\x_ (wr=W0.drewN n)) (λi _=>rows.length - (intOf i).toNat)
 case atStart=>exact⟨0,0,by omega,rfl,Z_ rfl⟩
 obtain⟨k,n,hk,rfl,HW⟩:=hrel;have b5:x_ (n_ W0 W0 wr):=Z_ (by rw[HW.o];exact below_drewN B_ n);have e2:x_ (n_ w w wr):=Z_ (e1.o.trans (b5.o.mono (by have:=b3.o;omega)));by_cases ch:k<rows.length
 ·obtain⟨b,off,A1,cF,rfl,hb,j4,hG⟩:=HA.o wr e2.o k ch
  have hL:¬(65536:Int)<((rows.getD k []).length:Int):=by
   rw[s_,w_ ch];have:=HR.o _ (JB ch);simp only[Option.getD_some];omega
  clear hG;generalize rows.getD k []=L at*;go_wp2;go_roundw
  case rel=>exact⟨k+1,n,by omega,by go_num,HW⟩
  simp[intOf];omega
 have hH:k=rows.length:=by omega
 have hJ:wr.cell? ⟨pj,1,b_⟩=c_ (e_ KW (gen:Nat)):=(e2.o.cell (p:=⟨pj,1,b_⟩) bd.o.1).trans c1;clear hH hk c0 c1 c2 c3 HW;obtain⟨wo,rfl⟩:∃wo:j_,wo=wr:=⟨_,rfl⟩;have e3:((gen:Int)+1)=((gen+1:Nat):Int):=by omega
 have e4:=Z_ e3;clear e3;obtain⟨N,hN⟩:=N_ (rows.length);have HN:=Z_ hN;have j3:(N:Int)<=4294967295:=by omega
 have j6:N<=20000:=by omega
 rw[<-hN]at ch hy hB⊢;clear hN;go_wp2_with fail;obtain⟨g1,cl⟩:=N_ (gen+1);have c6:=Z_ cl;rw[e4.o,<-cl];have b6:g1<4294967296:=by omega
 rw[<-cl,<-HN.o]at HE;clear e4 cl hg hA;obtain⟨E,hE⟩:=N_ (λk=>bE g1 (cy N::rows.take k));have e5:x_ (E N=bE g1 (cy N::rows)):=Z_ (by rw[hE];simp only;rw[HN.o,JO]);have e6:x_ (E 0=aw g1 (cy N)):=Z_ (by rw[hE];simp[bE]);have e7:x_ (∀j,j<N->E (j+1)=E j++aw g1 (rows.getD j [])):=Z_ (λj hj=>by
  rw[hE];simp only;rw[y_ (by rw[<-HN.o];exact hj),<-Ka,lr,s_,w_ (by rw[<-HN.o];exact hj)];rfl)
 have e8:x_ (∀j,j<=N->(E j).length<=900000):=Z_ (λj hj=>by
  have h1:=HE.o;rw[<-e5.o]at h1;have:∀d,j+d<=N->(E j).length<=(E (j+d)).length:=λd=>by
   induction d with
   |zero=>intro _;exact Kh _
   |succ d ih=>intro hd;have:=ih O_;rw[<-ME,e7.o _ O_,p_];omega
  have:=this (N - j) O_;rw[show j+(N - j)=N by omega]at this;omega)
 clear hE;refine(jX N O_ _).mono ?_;rintro e w1 ⟨A1,cF,rfl,e9,fb⟩;have fi:=Z_ e9;have cm:x_ (n_ W0 W0 w1):=Z_ (b5.o.trans (fb.mono b5.o.size));clear e9 fb hJ;go_wp2_with fail;refine(mr g1 b6 (a_ A1 4 cF) (cy N) w1 (by have:=Own.dH fi.o;exact this) (by rw[ep];omega)).mono ?_;rintro e w2 ⟨A2,c2,rfl,c8,fr⟩;rw[<-e6.o]at c8⊢;have hM:x_ (Par.Own w2 W0 5 (a_ A2 (E 0).length c2) (l_ (E 0))):=Z_ (c8.base cm.o.size);have hO:x_ (n_ W0 W0 w2):=Z_ (cm.o.trans (fr.mono cm.o.size));clear c8 fr fi cm e6;go_wp2
 go_loopw [8,36] (λs i wx=>∃m:Nat,m<=N/\i=e_ d_ m/\x_ (Par.Own wx W0 5 s (l_ (E m)))/\x_ (n_ W0 W0 wx)) (λ_ i _=>N - (intOf i).toNat)
 case atStart=>exact⟨0,by omega,rfl,hM,hO⟩
 obtain⟨m,hP,rfl,HU,bB⟩:=hrel;have bf:x_ (n_ w w wr):=Z_ (e1.o.trans (bB.o.mono (by have:=b3.o;omega)));have bt:=HU.o;obtain⟨As,cs,hf⟩:=bt.form;rw[t_]at hf;subst hf;have hz:=bB.o.size;by_cases c9:m<N
 ·obtain⟨b,off,Ak,ck,rfl,hb,hcell,cx⟩:=HA.o _ bf.o m (by rw[<-HN.o];exact c9)
  have cB:=Z_ (e7.o m c9);have fz:=Z_ (e8.o (m+1) O_);have hL:(rows.getD m []).length<=65536:=by
   rw[s_,w_ (by rw[<-HN.o];exact c9)];exact HR.o _ (JB _)
  generalize rows.getD m []=L at*;have gi:=Z_ (cx.more bf.o.size);clear cx;go_wp2_with fail;refine(mr g1 b6 (a_ Ak L.length ck) L wr gi.o O_).mono ?_;rintro e w3 ⟨A3,c3,rfl,gn,cp⟩;have bk:=bt.below cp;have cE:=Own.dH gn;have gp:=cp.size;have hQ:x_ (n_ W0 W0 w3):=Z_ (bB.o.trans (cp.mono hz));clear bt gn cp gi hcell;go_wp2_with (at_builtin;refine aE _ rfl _ _ _ rfl W0 5 _ fD _ _ rfl bk _ _ _ rfl cE (aZ _) ?c1 ?c2 ?_)
  case c1=>rw[t_,t_];have h1:=fz.o;rw[cB.o,p_]at h1;omega
  case c2=>exact Kj hz gp
  intro v3 w4 bm gv gy;have hR:=Z_ (dW hQ.o bk gv (Kj hz gp));rw[<-byteCells_append,<-cB.o]at bm;have hT:=Z_ bm;clear bm gv gy bk cE HU;go_wp2;go_roundw
  case rel=>exact⟨m+1,by omega,by go_num,hT,hR⟩
  simp[intOf];omega
 have gz:m=N:=by omega
 have HM:=Z_ gz;clear gz hP bt;obtain⟨wq,rfl⟩:∃wq:j_,wq=wr:=⟨_,rfl⟩;go_wp2_with fail;refine(Cq wq pj (E m).length cs As).mono ?_;rintro e w5 ⟨rfl,rfl⟩;obtain⟨w1,bN⟩:=N_ ((wq.alloc (f_ #[i_ (c_ ⟨pj,0,b_⟩)] 27)).alloc (f_ #[a_ As (E m).length cs] 24));have g0:n_ wq wq w1:=by rw[bN];exact(ah wq _).alloc (by simp) _
 have g2:w1.heap[wq.heap.size]?=c_ (f_ #[i_ (c_ ⟨pj,0,b_⟩)] 27 (0,0)):=by
  rw[bN,z_ _ _ _ (by simp)];exact r_ wq _
 have g3:w1.heap[wq.heap.size+1]?=c_ (f_ #[a_ As (E m).length cs] 24 (0,0)):=by
  rw[bN];have:=r_ (wq.alloc (f_ #[i_ (c_ ⟨pj,0,b_⟩)] 27)) (f_ #[a_ As (E m).length cs] 24);simpa using this
 have df:x_ (w1.heap.size=wq.heap.size+2):=Z_ (by rw[bN];simp);rw[<-bN];clear bN;have bO:=Z_ g0;have hU:=Z_ g2;have cb:=Z_ g3;clear g0 g2 g3;go_wp2;have cr:x_ (Kept F w w1):=Z_ ((Kept.ar bf.o).trans' (Kept.ar bO.o));have g4:=HF.o.lt;have g5:=Z_ g4;clear g4;have hV:x_ (Jw w1 p st F):=Z_ ((HF.o.below bf.o).below bO.o);have I:x_ (w1.heap[w.heap.size]?=c_ (f_ #[e_ d_ 0] 28 (0,0))):=Z_ (by
  rw[(bB.o.trans (bO.o.mono bB.o.size)).block _ (by have:=b3.o;omega),hF.o];exact r_ w _)
 have g6:x_ (JV w1 pj p gen bv lv bs us base log G):=Z_ ((HJ.o.go bf.o).go bO.o);have g7:x_ (E m=bE g1 (cy N::rows)):=Z_ (by rw[HM.o];exact e5.o);have X:x_ (w.heap.size+1<=wq.heap.size/\∀j,F j->j<w.heap.size):=Z_ ⟨by have:=bB.o.size;have:=b3.o;omega,g5.o⟩;have g8:x_ (a8 (λj=>j<w1.heap.size/\¬j<w.heap.size) w1 (a_ As (E m).length cs) (l_ (E m))):=Z_ (by
  have h1:=lD HU.o;have hz:=bO.o.size;have kh:=b3.o;exact h1.ae λj hj=>by
   have:=HU.o.lt j hj;exact⟨⟨by omega,by omega⟩,bO.o.block j this.2⟩)
 refine(wpIn_wide (n:=7)).1 ?_;refine pW (F:=Fence.wide) rfl O_ (gf:=136) (lb:=#[i_ (c_ ⟨wq,0,b_⟩),i_ (c_ ⟨wq+1,0,b_⟩)]) rfl trivial (enters_of Tryz.func136 K_ rfl)
  (zg w1 wq (wq+1) pj p _ _ _ _ (bV st.files aK) hU.o cb.o g6.o.head) (λh k=>h.t k) (λW r r' h=>Fq h) (λx=>by rw[zT];rfl)
  (mG w1 p st F (E m) kf d (bV st.files aK)) (λcd=>FZ w1 p st F (E m) w cd) Dt Du (λ_=>Dv) (λ_=>Dw (by have:=df.o;have:=X.o.1;omega)) Gf (λpre W h=>mG.rs ⟨pre,h⟩ HB.o.1)
  ⟨by simp,st,F,rfl,hV.o,HC.o.mono (by simp) (by simp),HB.o.2.2,rfl,Kept.refl _ _,aH.refl _ _⟩
  (λx=>{tmps:=#[i_ (c_ ⟨pj,0,b_⟩),a_ A N c,q_,q_,i_ (c_ ⟨w,0,b_⟩),q_,u6,e_ KW (g1:Nat),a_ As (E m).length cs,q_,u10,vS (wq+1) x,q_,a_ A N c,e_ d_ (N:Nat),e_ d_ (k:Nat),.bool o_,u17,u18,u19,u20,u21,u22,i_ (c_ ⟨pj,0,b_⟩),i_ (c_ ⟨pj,0,b_⟩),i_ (c_ ⟨pj,1,b_⟩),e_ KW (gen:Nat),e_ KW (g1:Nat),e_ KW (g1:Nat),a_ A N c,e_ d_ (N:Nat),e_ KW (N:Nat),a_ A1 4 cF,a_ A2 (E 0).length c2,a_ A N c,e_ d_ (N:Nat),e_ d_ (m:Nat),.bool o_,u38,u39,u40,u41,u42,u43,u44,u45,i_ (c_ ⟨pj,0,b_⟩),a_ As (E m).length cs,.func (.func 136) #[] #[i_ (c_ ⟨wq,0,b_⟩),i_ (c_ ⟨wq+1,0,b_⟩)],vS (wq+1) x,q_,q_,q_,q_,q_,q_,q_,q_,q_,q_,q_,q_,q_,q_,q_,q_,q_],defers:=[]}) ?assign ?body ?done ?stop
 case assign=>
  intro l x W K hK;have HK:=Z_ hK;clear hK;rw[zT];dsimp only;gi_wp2;exact HK.o
 case body=>
  rintro l pre ⟨i,b4⟩ W ⟨cc,V,F',h2,h3,h4,h5,h6,h7,h8⟩ bg hlen ⟨rr,Z⟩;have b0:W.heap[w.heap.size]?=c_ (f_ #[e_ d_ 0] 28 (0,0)):=(h7.block _ (F_ I.o) (λhf=>by have:=X.o.2 _ hf;omega)).trans I.o;have b1:∀j,j<w1.heap.size->¬j<w.heap.size->¬F' j:=λj h9 hW hX=>by
   rcases h8 j hX with ha|ha
   ·exact hW (X.o.2 j ha)
   omega
  have J:x_ (∀M W2,Jw W2 p (aD (E m) i V).1 M->Kept F' W W2->aH W F' M->kx w1 W W2/\zx W W2/\Jw W2 p (aD (E m) i V).1 M/\aH w1 F M/\Kept F w1 W2/\ax (E m) ((pre++[(i,b4)]).map (·.1)) st=aD (E m) i V/\((aD (E m) i V).2=0->mG w1 p st F (E m) kf d (bV st.files aK) (pre++[(i,b4)]) W2)):=Z_ λM W2 hf hk hg=>by
   obtain⟨n1,n2,n3,n4⟩:=mG.next (x:=(i,b4)) hlen h2 h3 h4 h5 h6 h7 h8 hf hk hg;exact⟨Kept.G7 hk h3 _,Kept.ty hk h3,hf,n1,n2,n3,n4⟩
  have U:x_ (∀W2,Kept F' W W2->W2.heap[w.heap.size]?=c_ (f_ #[e_ d_ 0] 28 (0,0))):=Z_ λW2 hk=>(hk.block _ (F_ b0) (b1 _ (F_ I.o) O_)).trans b0
  rcases i with _|_|_|n
  ·have ad:=Ck W p b4 (wq+1) (E m).length cs As V F' h3 (E m) rfl (g8.o.ae λj hj=>⟨⟨by have:=h7.size;omega,b1 j hj.1 hj.2⟩,h7.block j hj.1 (λhf=>hj.2 (X.o.2 j hf))⟩) (h4.modest h5 (by have:=HB.o.1;omega) (by have h9:=e8.o m (by have:=HM.o;omega);have:=HB.o.2.1;have:pre.length*(E m).length<=4*900000:=Nat.mul_le_mul cc h9;omega)) bg ((h7.block _ (F_ cb.o) (λhf=>by have:=X.o.2 _ hf;have:=X.o.1;omega)).trans cb.o)
   try simp only[Lp,KR]at J U
   dsimp only;obtain⟨r2,av⟩:=N_ (aD (E m) 0 V);rw[<-av]at ad J;have Y:H_ h_ 137 #[i_ (c_ ⟨b4,0,b_⟩),i_ (c_ ⟨wq+1,0,b_⟩)] W λe W2=>e=k_ (e_ d_ r2.2)/\x_ (∃M,kx w1 W W2/\zx W W2/\Jw W2 p r2.1 M/\aH w1 F M/\Kept F w1 W2/\ax (E m) ((pre++[(0,b4)]).map (λy:Nat×Nat=>y.1)) st=r2/\(r2.2=0->mG w1 p st F (E m) kf d (bV st.files aK) (pre++[(0,b4)]) W2))/\W2.cell? ⟨w,0,b_⟩=c_ (e_ d_ 0)/\W2.frozen? ⟨w,0,b_⟩=false:=by
    refine ad.mono ?_;rintro e W2 ⟨M,rfl,bn,a1,bo⟩;obtain⟨y1,y2⟩:=aL (U.o W2 a1);exact⟨rfl,Z_ ⟨M,J.o M W2 bn a1 bo⟩,y1,y2⟩
   have O:=Z_ Y;clear ad Y J U av h2 h3 h4 h5 h6 h7 h8 bg Z b0 b1;simp only[vS];by_cases D:r2.2=0
   ·rw[D]at O
    gi_wp2_with (refine⟨trivial,?_⟩;gi_at_call 137;refine(CallsIn.inRound l (Kg.2 O.o)).mono ?_;rintro e W2 ⟨rfl,ak,y1,y2⟩)
    obtain⟨M,n1,n2,n3,n4,n5,n6,n7⟩:=ak.o;exact⟨n1,n2,n7 (by first|exact D|trivial|rfl)⟩
   obtain⟨er,he⟩:∃er,er=r2.2:=⟨_,rfl⟩;rw[<-he]at O D;have dv:(er !=0)=true:=by simpa using D
   have a2:=Z_ (KM he D);clear he D;gi_wp2_with (refine⟨trivial,?_⟩;gi_at_call 137;refine(CallsIn.inRound l (Kg.2 O.o)).mono ?_;rintro e W2 ⟨rfl,ak,y1,y2⟩)
   obtain⟨M,n1,n2,n3,n4,n5,n6,n7⟩:=ak.o;have ba:W2.heap[w.heap.size]?=c_ (f_ #[e_ d_ 0] 28 (0,0)):=(n5.block _ (F_ I.o) (λhf=>by have:=X.o.2 _ hf;omega)).trans I.o;have eb:w.heap.size<w1.heap.size:=F_ I.o;exact⟨λr Z=>⟨(ab (by show w1.heap.size+1≠w.heap.size;omega)).trans (n1 r Z).loop,(ab (by show w1.heap.size≠w.heap.size;omega)).trans (n1 r Z).calls⟩,rfl,r2.1,M,er,a2.o.2,by rw[n6,a2.o.1],n3.ae λj hj=>ab (λ(e:j=w.heap.size)=>by
     subst e;rcases n4 _ hj with hj|hj
     ·have:=X.o.2 _ hj;omega
     omega),((n5.mono λj _ hj=>.inl hj).setCell (p:=⟨w,0,b_⟩) (.inl (.inr rfl)) _),n4,dk ba⟩
  ·have ad:=Cl W p b4 V F' h3 (E m) h5 bg
   try simp only[Lp,KR]at J U
   dsimp only;obtain⟨r2,av⟩:=N_ (aD (E m) 1 V);rw[<-av]at ad J;have Y:H_ h_ 138 #[i_ (c_ ⟨b4,0,b_⟩)] W λe W2=>e=k_ (e_ d_ r2.2)/\x_ (∃M,kx w1 W W2/\zx W W2/\Jw W2 p r2.1 M/\aH w1 F M/\Kept F w1 W2/\ax (E m) ((pre++[(1,b4)]).map (λy:Nat×Nat=>y.1)) st=r2/\(r2.2=0->mG w1 p st F (E m) kf d (bV st.files aK) (pre++[(1,b4)]) W2))/\W2.cell? ⟨w,0,b_⟩=c_ (e_ d_ 0)/\W2.frozen? ⟨w,0,b_⟩=false:=by
    refine ad.mono ?_;rintro e W2 ⟨M,rfl,bn,a1,bo⟩;obtain⟨y1,y2⟩:=aL (U.o W2 a1);exact⟨rfl,Z_ ⟨M,J.o M W2 bn a1 bo⟩,y1,y2⟩
   have O:=Z_ Y;clear ad Y J U av h2 h3 h4 h5 h6 h7 h8 bg Z b0 b1;simp only[vS];by_cases D:r2.2=0
   ·rw[D]at O
    gi_wp2_with (refine⟨trivial,?_⟩;gi_at_call 138;refine(CallsIn.inRound l (Kg.2 O.o)).mono ?_;rintro e W2 ⟨rfl,ak,y1,y2⟩)
    obtain⟨M,n1,n2,n3,n4,n5,n6,n7⟩:=ak.o;exact⟨n1,n2,n7 (by first|exact D|trivial|rfl)⟩
   obtain⟨er,he⟩:∃er,er=r2.2:=⟨_,rfl⟩;rw[<-he]at O D;have dv:(er !=0)=true:=by simpa using D
   have a2:=Z_ (KM he D);clear he D;gi_wp2_with (refine⟨trivial,?_⟩;gi_at_call 138;refine(CallsIn.inRound l (Kg.2 O.o)).mono ?_;rintro e W2 ⟨rfl,ak,y1,y2⟩)
   obtain⟨M,n1,n2,n3,n4,n5,n6,n7⟩:=ak.o;have ba:W2.heap[w.heap.size]?=c_ (f_ #[e_ d_ 0] 28 (0,0)):=(n5.block _ (F_ I.o) (λhf=>by have:=X.o.2 _ hf;omega)).trans I.o;have eb:w.heap.size<w1.heap.size:=F_ I.o;exact⟨λr Z=>⟨(ab (by show w1.heap.size+1≠w.heap.size;omega)).trans (n1 r Z).loop,(ab (by show w1.heap.size≠w.heap.size;omega)).trans (n1 r Z).calls⟩,rfl,r2.1,M,er,a2.o.2,by rw[n6,a2.o.1],n3.ae λj hj=>ab (λ(e:j=w.heap.size)=>by
     subst e;rcases n4 _ hj with hj|hj
     ·have:=X.o.2 _ hj;omega
     omega),((n5.mono λj _ hj=>.inl hj).setCell (p:=⟨w,0,b_⟩) (.inl (.inr rfl)) _),n4,dk ba⟩
  ·have ad:=Cm W p b4 V F' h3 (E m) h5 (by have:=h4.files;have:=HB.o.1;omega) bg
   try simp only[Lp,KR]at J U
   dsimp only;obtain⟨r2,av⟩:=N_ (aD (E m) 2 V);rw[<-av]at ad J;have Y:H_ h_ 139 #[i_ (c_ ⟨b4,0,b_⟩)] W λe W2=>e=k_ (e_ d_ r2.2)/\x_ (∃M,kx w1 W W2/\zx W W2/\Jw W2 p r2.1 M/\aH w1 F M/\Kept F w1 W2/\ax (E m) ((pre++[(2,b4)]).map (λy:Nat×Nat=>y.1)) st=r2/\(r2.2=0->mG w1 p st F (E m) kf d (bV st.files aK) (pre++[(2,b4)]) W2))/\W2.cell? ⟨w,0,b_⟩=c_ (e_ d_ 0)/\W2.frozen? ⟨w,0,b_⟩=false:=by
    refine ad.mono ?_;rintro e W2 ⟨M,rfl,bn,a1,bo⟩;obtain⟨y1,y2⟩:=aL (U.o W2 a1);exact⟨rfl,Z_ ⟨M,J.o M W2 bn a1 bo⟩,y1,y2⟩
   have O:=Z_ Y;clear ad Y J U av h2 h3 h4 h5 h6 h7 h8 bg Z b0 b1;simp only[vS];by_cases D:r2.2=0
   ·rw[D]at O
    gi_wp2_with (refine⟨trivial,?_⟩;gi_at_call 139;refine(CallsIn.inRound l (Kg.2 O.o)).mono ?_;rintro e W2 ⟨rfl,ak,y1,y2⟩)
    obtain⟨M,n1,n2,n3,n4,n5,n6,n7⟩:=ak.o;exact⟨n1,n2,n7 (by first|exact D|trivial|rfl)⟩
   obtain⟨er,he⟩:∃er,er=r2.2:=⟨_,rfl⟩;rw[<-he]at O D;have dv:(er !=0)=true:=by simpa using D
   have a2:=Z_ (KM he D);clear he D;gi_wp2_with (refine⟨trivial,?_⟩;gi_at_call 139;refine(CallsIn.inRound l (Kg.2 O.o)).mono ?_;rintro e W2 ⟨rfl,ak,y1,y2⟩)
   obtain⟨M,n1,n2,n3,n4,n5,n6,n7⟩:=ak.o;have ba:W2.heap[w.heap.size]?=c_ (f_ #[e_ d_ 0] 28 (0,0)):=(n5.block _ (F_ I.o) (λhf=>by have:=X.o.2 _ hf;omega)).trans I.o;have eb:w.heap.size<w1.heap.size:=F_ I.o;exact⟨λr Z=>⟨(ab (by show w1.heap.size+1≠w.heap.size;omega)).trans (n1 r Z).loop,(ab (by show w1.heap.size≠w.heap.size;omega)).trans (n1 r Z).calls⟩,rfl,r2.1,M,er,a2.o.2,by rw[n6,a2.o.1],n3.ae λj hj=>ab (λ(e:j=w.heap.size)=>by
     subst e;rcases n4 _ hj with hj|hj
     ·have:=X.o.2 _ hj;omega
     omega),((n5.mono λj _ hj=>.inl hj).setCell (p:=⟨w,0,b_⟩) (.inl (.inr rfl)) _),n4,dk ba⟩
  have ad:=Cn W p b4 n V F' h3 (E m) h5 bg;try simp only[Lp,KR]at J U
  dsimp only;obtain⟨r2,av⟩:=N_ (aD (E m) (n+3) V);rw[<-av]at ad J;have Y:H_ h_ 141 #[i_ (c_ ⟨b4,0,b_⟩)] W λe W2=>e=k_ (e_ d_ r2.2)/\x_ (∃M,kx w1 W W2/\zx W W2/\Jw W2 p r2.1 M/\aH w1 F M/\Kept F w1 W2/\ax (E m) ((pre++[((n+3),b4)]).map (λy:Nat×Nat=>y.1)) st=r2/\(r2.2=0->mG w1 p st F (E m) kf d (bV st.files aK) (pre++[((n+3),b4)]) W2))/\W2.cell? ⟨w,0,b_⟩=c_ (e_ d_ 0)/\W2.frozen? ⟨w,0,b_⟩=false:=by
   refine ad.mono ?_;rintro e W2 ⟨M,rfl,bn,a1,bo⟩;obtain⟨y1,y2⟩:=aL (U.o W2 a1);exact⟨rfl,Z_ ⟨M,J.o M W2 bn a1 bo⟩,y1,y2⟩
  have O:=Z_ Y;clear ad Y J U av h2 h3 h4 h5 h6 h7 h8 bg Z b0 b1;simp only[vS];by_cases D:r2.2=0
  ·rw[D]at O
   gi_wp2_with (refine⟨trivial,?_⟩;gi_at_call 141;refine(CallsIn.inRound l (Kg.2 O.o)).mono ?_;rintro e W2 ⟨rfl,ak,y1,y2⟩)
   obtain⟨M,n1,n2,n3,n4,n5,n6,n7⟩:=ak.o;exact⟨n1,n2,n7 (by first|exact D|trivial|rfl)⟩
  obtain⟨er,he⟩:∃er,er=r2.2:=⟨_,rfl⟩;rw[<-he]at O D;have dv:(er !=0)=true:=by simpa using D
  have a2:=Z_ (KM he D);clear he D;gi_wp2_with (refine⟨trivial,?_⟩;gi_at_call 141;refine(CallsIn.inRound l (Kg.2 O.o)).mono ?_;rintro e W2 ⟨rfl,ak,y1,y2⟩)
  obtain⟨M,n1,n2,n3,n4,n5,n6,n7⟩:=ak.o;have ba:W2.heap[w.heap.size]?=c_ (f_ #[e_ d_ 0] 28 (0,0)):=(n5.block _ (F_ I.o) (λhf=>by have:=X.o.2 _ hf;omega)).trans I.o;have eb:w.heap.size<w1.heap.size:=F_ I.o;exact⟨λr Z=>⟨(ab (by show w1.heap.size+1≠w.heap.size;omega)).trans (n1 r Z).loop,(ab (by show w1.heap.size≠w.heap.size;omega)).trans (n1 r Z).calls⟩,rfl,r2.1,M,er,a2.o.2,by rw[n6,a2.o.1],n3.ae λj hj=>ab (λ(e:j=w.heap.size)=>by
    subst e;rcases n4 _ hj with hj|hj
    ·have:=X.o.2 _ hj;omega
    omega),((n5.mono λj _ hj=>.inl hj).setCell (p:=⟨w,0,b_⟩) (.inl (.inr rfl)) _),n4,dk ba⟩
 case done=>
  rintro xs W hS ⟨cc,V,F',h2,h3,h4,h5,h6,h7,h8⟩ cf;have bx:ax (E m) (a7 (bV st.files aK)) st=(V,0):=by rw[<-hS];exact h2
  have ec:Kept F w W:=by
   have:=cr.o;exact⟨h7.os.trans this.os,h7.tape.trans this.tape,h7.output.trans this.output,Kj this.size h7.size,λj hj hn=>(h7.block j (by have:=this.size;omega) hn).trans (this.block j hj hn)⟩
  have hh:aH w F F':=λj hj=>(h8 j hj).imp id (λh=>by have:=cr.o.size;omega)
  have ho:=Z_ (HJ.o.kept ec HH.o.apart);have bj:x_ (W.heap[w.heap.size]?=c_ (f_ #[e_ d_ 0] 28 (0,0))):=Z_ ((h7.block _ (F_ I.o) (λhf=>by have:=X.o.2 _ hf;omega)).trans I.o);have hq:=Z_ bx;have ct:=Z_ ec;have hY:=Z_ hh;have iv:=Z_ h3;have ee:=Z_ cf;have eg:x_ (al (·<(W.setCell ⟨pj,1,b_⟩ (e_ KW (g1:Nat))).heap.size) (W.setCell ⟨pj,1,b_⟩ (e_ KW (g1:Nat))) (a_ A rows.length c) rows):=Z_ (HV.o.ae λj hj=>by
   have:=ct.o.size;refine⟨by simp[Kd];omega,?_⟩;rw[ab (λ(e:j=pj)=>hj.2.2 (e▸HJ.o.jJ))];exact ct.o.block j hj.1 hj.2.1)
  obtain⟨⟨c0,c1,c2,c3⟩,f1,f2,f3⟩:=ho.o.cells;clear bx ec hh cf hS h2 h3 h4 h5 h6 h7 h8;have j0:x_ (H_ h_ 93 #[a_ A N c] (W.setCell ⟨pj,1,b_⟩ (e_ KW (g1:Nat))) λe W7=>∃(u:m_) (A7:Option Addr) (c7:Nat) (cu:List m_),e=k_ (a_ A7 N c7)/\x_ (u=a_ A7 N c7/\Rowed (W.setCell ⟨pj,1,b_⟩ (e_ KW (g1:Nat))) rows rows.length u cu W7)/\
    (W7.cell? ⟨pj,2,b_⟩=c_ bv/\W7.cell? ⟨pj,3,b_⟩=c_ lv/\W7.frozen? ⟨pj,2,b_⟩=o_/\W7.frozen? ⟨pj,3,b_⟩=o_/\W7.cell? ⟨w,0,b_⟩=c_ (e_ d_ 0)/\W7.frozen? ⟨w,0,b_⟩=o_/\W7.frozen? ⟨pj,1,b_⟩=o_)):=Z_ (by
   rw[HN.o];refine(qH _ rows _ eg.o (by have:=HN.o;omega) (λl hl=>by have:=HR.o l hl;omega)).mono ?_;rintro e W7 ⟨u,cu,rfl,hr⟩;obtain⟨A7,c7,hf⟩:=hr.own.form;rw[hr.len]at hf;have en:=(hr.below.block pj (by have:=ct.o.size;have:=bd.o.1;simp[Kd];omega)).trans (dQ ho.o.head (e_ KW (g1:Nat))).1;obtain⟨⟨-,-,y2,y3⟩,z1,z2,z3⟩:=dh en;have cg:=(hr.below.block w (by have:=F_ bj.o;simp[Kd];omega)).trans ((ab (show w.heap.size≠pj by have:=bd.o.1;omega)).trans bj.o);obtain⟨x0,x1⟩:=aL cg;exact⟨u,A7,c7,cu,by rw[hf],Z_ ⟨hf,hr⟩,y2,y3,z2,z3,x0,x1,z1⟩)
  go_wp2_with fail;refine j0.o.mono ?_;rintro e W7 ⟨u,A7,c7,cu,rfl,cv,y2,y3,z2,z3,x0,x1,z1⟩;clear c0 c1 c2 c3 f1 f2 f3;go_wp2;have bb:x_ (w1.heap.size≠pj/\w1.heap.size≠w.heap.size/\w.heap.size<=w1.heap.size):=Z_ (by have:=bd.o.1;have:=df.o;have:=X.o.1;omega);have hD:((((W7.setCell ⟨pj,2,b_⟩ (a_ A7 N c7)).setCell ⟨pj,3,b_⟩ (a_ b_ 0 0)).setCell ⟨w,0,b_⟩ (e_ d_ 0))).heap[w1.heap.size]?=c_ (.deferred (c_ [])):=by
   rw[ab (by exact bb.o.2.1),ab (by exact bb.o.1),ab (by exact bb.o.1)];exact(cv.o.2.below.block _ (by have:=F_ ee.o;simpa[Kd]using this)).trans ((ab (by exact bb.o.1)).trans ee.o)
  refine⟨by simp,.inl ⟨_,_,rfl,run_takeDeferred hD,?_⟩⟩;have ht:(((W7.setCell ⟨pj,2,b_⟩ (a_ A7 N c7)).setCell ⟨pj,3,b_⟩ (a_ b_ 0 0)).setCell ⟨w,0,b_⟩ (e_ d_ 0)).heap[w.heap.size]?=c_ (f_ #[e_ d_ 0] 28 (0,0)):=by
   have cg:=(cv.o.2.below.block w (by have:=F_ bj.o;simpa[Kd]using this)).trans ((ab (show w.heap.size≠pj by have:=bd.o.1;omega)).trans bj.o);exact dk ((ab (show w.heap.size≠pj by have:=bd.o.1;omega)).trans ((ab (show w.heap.size≠pj by have:=bd.o.1;omega)).trans cg))
  have bp:=(World.putObj_heap_other (w:=(((W7.setCell ⟨pj,2,b_⟩ (a_ A7 N c7)).setCell ⟨pj,3,b_⟩ (a_ b_ 0 0)).setCell ⟨w,0,b_⟩ (e_ d_ 0))) (r:=w1.heap.size) (o:=.deferred b_) (Ne.symm bb.o.2.1)).trans ht;obtain⟨x5,-⟩:=aL bp;refine⟨e_ d_ 0,by simp[results,Tryz.results64,go_sem,x5],(V,0),?_,rfl,?_⟩
  ·have:=hq.o;rw[g7.o,c6.o,HN.o]at this;exact this
  have:=dO.laid (x:=e_ d_ 0) (o:=.deferred b_) HH.o HJ.o iv.o ct.o hY.o cv.o.2 b6 L_ bj.o bb.o.2.2 ee.o;rw[cv.o.1]at this;rw[G_ rfl,G_ rfl,G_ rfl,<-c6.o];exact this
 rintro cd xs W hS ⟨rfl,V,F',er,h1,h2,h3,h4,h5,h6⟩ cf;refine wpIn_wide.2 ?_;go_wp2;have bb:x_ (w1.heap.size≠w.heap.size/\w.heap.size<=w1.heap.size):=Z_ (by have:=bd.o.1;have:=df.o;have:=X.o.1;omega);refine⟨by simp,.inl ⟨_,_,rfl,run_takeDeferred cf,?_⟩⟩;have bp:=(World.putObj_heap_other (w:=W) (r:=w1.heap.size) (o:=.deferred b_) (Ne.symm bb.o.1)).trans h6;obtain⟨x5,-⟩:=aL bp;have bx:ax (bE (gen+1) (cy rows.length::rows)) (a7 (bV st.files aK)) st=(V,er):=by
  have h7:=rm (b:=E m) hS (st:=st) (by rw[h2];exact h1);rw[h2,g7.o,c6.o,HN.o]at h7;exact h7
 have j1:Kept (λk=>F k\/k=w.heap.size) w W:=by
  have:=cr.o;exact⟨h4.os.trans this.os,h4.tape.trans this.tape,h4.output.trans this.output,Kj this.size h4.size,λj hj hn=>(h4.block j (by have:=this.size;omega) hn).trans (this.block j hj (λhf=>hn (.inl hf)))⟩
 have j2:aH w F F':=λj hj=>(h5 j hj).imp id (λh=>by have:=cr.o.size;omega)
 refine⟨e_ d_ er,by simp[results,Tryz.results64,go_sem,x5],(V,er),bx,rfl,?_⟩;rw[I_ h1,I_ h1,I_ h1];exact dO.left HH.o h3 j1 j2 L_ bb.o.2 cf
def bC(st:St):St×Int:=if bV st.files a6 then cD st a6 else(st,0)
def cw(st:St):Option (Nat×List (List UInt8)):=match aj af.name dj st.files with|none=>c_ (0,[])|some f=>bP f.data
def cO(st:St)(g:Nat):List (List UInt8):=match aj af.name aK st.files with|none=>[]|some f=>dR (aU g (dM f.data))
def bX(st:St)(g:Nat):St×Int:=match aj af.name aK st.files with|none=>(st,0)|some f=>if bD (aU g (dM f.data))<f.data.length then aF st aK (bD (aU g (dM f.data)):Nat)else(st,0)
def aW(st:St):St×Except Int (Nat×List (List UInt8)×List (List UInt8)):=
 if(bC st).2=0 then(match cw (bC st).1 with
  |none=>((bC st).1,.error 200)
  |some x=>if(bX (bC st).1 x.1).2=0 then((bX (bC st).1 x.1).1,.ok (x.1,x.2,cO (bC st).1 x.1))else((bX (bC st).1 x.1).1,.error (bX (bC st).1 x.1).2))
 else((bC st).1,.error (bC st).2)
def zt(w w':j_)(p:Nat)(F':Nat->Prop)(r:St×Except Int (Nat×List (List UInt8)×List (List UInt8)))(e:Ending):Prop:=match r.2 with
 | .error n=>e=k_ (.tuple #[i_ b_,e_ d_ n])
 | .ok x=>∃pj G,e=k_ (.tuple #[i_ (c_ ⟨pj,0,b_⟩),e_ d_ 0])/\JF w' pj p r.1 x.1 x.2.1 x.2.2 F' G/\∀k,G k->w.heap.size<=k
def CQ(w:j_)(p:Nat)(F:Nat->Prop)(r:St×Except Int (Nat×List (List UInt8)×List (List UInt8)))(e:Ending)(w':j_):Prop:=∃F',Jw w' p r.1 F'/\Kept F w w'/\aH w F F'/\zt w w' p F' r e
structure OI(w:j_)(p:Nat)(F:Nat->Prop)(pj:Nat)(st:St)(gen:Nat)(lv:m_)(us:List m_)(base log:List (List UInt8))(F' G:Nat->Prop)(W:j_):Prop where
 fs:Jw W p st F'
 jv:∃bv bs,JV W pj p gen bv lv bs us base log G
 kept:Kept F w W
 iu:aH w F F'
 new:∀k,G k->w.heap.size<=k
 apart:∀k,G k->¬F' k
section
variable{w W W':j_}{p pj gen:Nat}{F F' G:Nat->Prop}{st:St}{lv:m_}{us:List m_}{base log:List (List UInt8)}
theorem OI.below(h:OI w p F pj st gen lv us base log F' G W)(j:n_ W W W'):OI w p F pj st gen lv us base log F' G W':=by
 obtain⟨bv,bs,hj⟩:=h.jv;exact⟨h.fs.below j,⟨bv,bs,hj.go j⟩,h.kept.trans' (Kept.ar j),h.iu,h.new,h.apart⟩
theorem OI.GQ(h:OI w p F pj st gen lv us base log F' G W)(I:Kept G W W'){j:Nat}{U J:m_}{V K:List m_}{base' t:List (List UInt8)}{G':Nat->Prop}(hj:JV W' pj p j U J V K base' t G')(X:aH W G G'):OI w p F pj st j J K base' t F' G' W':=by
 have Y:=h.kept.size;refine⟨h.fs.ae λk M=>I.block k (h.fs.lt k M) (λD=>h.apart k D M),⟨_,_,hj⟩,⟨I.os.trans h.kept.os,I.tape.trans h.kept.tape,I.output.trans h.kept.output,Kj Y I.size,λk h1 h2=>?_⟩,h.iu,λk h1=>?_,λk h1 h2=>?_⟩
 ·exact(I.block k O_ (λD=>by have:=h.new k D;omega)).trans (h.kept.block k h1 h2)
 ·rcases X k h1 with O|O
  ·exact h.new k O
  omega
 rcases X k h1 with O|O
 ·exact h.apart k O h2
 have:=h.fs.lt k h2;omega
theorem OI.alone(h:OI w p F pj st gen lv us base log F' G W)(t:Kept G W W'):Jw W' p st F'/\Kept F w W':=by
 have I:=h.kept.size;refine⟨h.fs.ae λk D=>t.block k (h.fs.lt k D) (λj=>h.apart k j D),t.os.trans h.kept.os,t.tape.trans h.kept.tape,t.output.trans h.kept.output,Kj I t.size,λk h1 h2=>?_⟩;exact(t.block k O_ (λj=>by have:=h.new k j;omega)).trans (h.kept.block k h1 h2)
theorem OI.done(h:OI w p F pj st gen lv us base log F' G W):JF W pj p st gen base log F' G:=by
 obtain⟨bv,bs,hj⟩:=h.jv;exact⟨h.fs,⟨bv,lv,bs,us,hj⟩,h.apart⟩
theorem OI.files(h:OI w p F pj st gen lv us base log F' G W){Ee:St}{D:Nat->Prop}(K:Jw W' p Ee D)(t:Kept F' W W')(J:aH W F' D):OI w p F pj Ee gen lv us base log D G W':=by
 obtain⟨bv,bs,hj⟩:=h.jv;have M:=h.kept.size;refine⟨K,⟨bv,bs,hj.kept t h.apart⟩,⟨t.os.trans h.kept.os,t.tape.trans h.kept.tape,t.output.trans h.kept.output,Kj M t.size,λk h1 h2=>?_⟩,λk h1=>?_,h.new,λk h1 h2=>?_⟩
 ·refine(t.block k O_ (λI=>?_)).trans (h.kept.block k h1 h2)
  rcases h.iu k I with j|j
  ·exact h2 j
  omega
 ·rcases J k h1 with j|j
  ·exact h.iu k j
  right;omega
 rcases J k h2 with j|j
 ·exact h.apart k h1 j
 have:=hj.lt k h1;omega
end
theorem Bv(w:j_)(p:Nat)(st:St)(F:Nat->Prop)(hf:Jw w p st F){k d:Nat}(hc:Calm st.files k d)(hk:k<=1000)(hd:d<=2000000)(bt:st.aa<=9223372036854775807):
  H_ h_ 10 #[i_ (c_ ⟨p,0,b_⟩)] w (CQ w p F (aW st)):=by
 have HF:=Z_ hf;have HC:=Z_ hc;have HB:=Z_ (KM hk (KM hd bt));have bp:=Z_ (uq w p st F hf (by have:=hc.files;omega) hc.short a6);have ba:x_ (∀W,n_ w w W->bV st.files a6=true->H_ h_ 42 #[i_ (c_ ⟨p,0,b_⟩),g_ ⟨#[110,101,120,116]⟩] W λe W'=>e=k_ (e_ d_ (bC st).2)/\x_ (∃F',Jw W' p (bC st).1 F'/\Kept F w W'/\aH w F F')):=Z_ λW hW hh=>by
  refine(yS W p st F (HF.o.below hW) ⟨#[110,101,120,116]⟩ (by decide) bt).mono ?_;rintro e W' ⟨F',rfl,h1,h2,h3⟩;rw[show(Mz #[110,101,120,116]).data.toList=a6 from rfl]at h1⊢;have e1:bC st=cD st a6:=by unfold bC;rw[G_ hh]
  rw[e1];exact⟨rfl,Z_ ⟨F',h1,(Kept.ar (F:=F) hW).trans h2 (aH.refl _ _),λk hk=>(h3 k hk).imp id (λh=>by have:=hW.size;omega)⟩⟩
 have a2:x_ (Calm (bC st).1.files k d/\(bC st).1.aa<=9223372036854775807):=Z_ (by
  unfold bC;split
  ·unfold cD
   split
   ·exact⟨hc,bt⟩
   exact⟨hc.do (hc.an a6),kE bt⟩
  exact⟨hc,bt⟩)
 clear hf hc hk hd bt;by_cases bg:(bC st).2=0
 case neg=>
  have hh:bV st.files a6=true:=by
   cases h:bV st.files a6 with
   |true=>rfl
   |false=>exfalso;apply bg;unfold bC;rw[h];rfl
  have bj:x_ (aW st=((bC st).1,.error (bC st).2)):=Z_ (by unfold aW;rw[I_ bg]);rw[hh]at bp;have cE:((bC st).2 !=0)=true:=by simpa using bg
  have HR:=Z_ (λW hW=>ba.o W hW hh);clear bg hh ba a2;generalize(bC st).2=er at*;go_enter Tryz.func10,Tryz.ntmps10;go_wp2_with fail;refine bp.o.mono ?_;rintro e w1 ⟨rfl,b0⟩;have bx:=Z_ b0;clear b0;go_wp2_with fail;refine(HR.o w1 bx.o).mono ?_;rintro e w2 ⟨rfl,HX⟩;go_wp2
  go_ret2
  obtain⟨F',h1,h2,h3⟩:=HX.o;rw[bj.o];exact⟨F',h1,h2,h3,rfl⟩
 obtain⟨t,bb⟩:=N_ ((bC st).1);have bj:x_ (aW st=match cw t with
  |none=>(t,.error 200)
  |some x=>if(bX t x.1).2=0 then((bX t x.1).1,.ok (x.1,x.2,cO t x.1))else((bX t x.1).1,.error (bX t x.1).2)):=Z_ (by unfold aW;rw[G_ bg,<-bb])
 rw[<-bb,bg]at ba;rw[<-bb]at a2;have cF:x_ (bV st.files a6=o_->t=st):=Z_ λh=>by rw[bb];unfold bC;rw[h];rfl
 clear bb bg;go_enter Tryz.func10,Tryz.ntmps10;go_wp2_with fail;refine bp.o.mono ?_;rintro e w1 ⟨rfl,b0⟩;have bx:=Z_ b0;clear b0
 go_upto_if 15 with fail
 go_cut [] (λW=>x_ (∃F',Jw W p t F'/\Kept F w W/\aH w F F'))
 case first=>
  cases hh:bV st.files a6
  ·have HX:x_ (∃F',Jw w1 p t F'/\Kept F w w1/\aH w F F'):=Z_ ⟨F,by rw[cF.o hh];exact HF.o.below bx.o,Kept.ar bx.o,aH.refl _ _⟩
   clear hh;go_wp2;go_meet;exact HX
  have HR:=Z_ (ba.o w1 bx.o hh);clear hh;go_wp2_with fail;refine HR.o.mono ?_;rintro e w2 ⟨rfl,HX⟩;go_wp2;go_meet;exact HX
 obtain⟨F1,c6,c7,c8⟩:=hcut.o;have c9:=Z_ c6;have df:=Z_ c7;have dv:=Z_ c8;obtain⟨W1,rfl⟩:=N_ (wc);have cp:=a2.o;clear hcut c6 c7 c8 ba cF bp bx w1;obtain⟨W2,bk⟩:=N_ (W1.alloc (f_ #[i_ (c_ ⟨p,0,b_⟩),e_ KW 0,a_ b_ 0 0,a_ b_ 0 0] 95));have cr:W2.heap[W1.heap.size]?=c_ (f_ #[i_ (c_ ⟨p,0,b_⟩),e_ KW 0,a_ b_ 0 0,a_ b_ 0 0] 95 (0,0)):=by rw[bk];exact r_ W1 _
 have cl:n_ W1 W1 W2:=by rw[bk];exact ah W1 _
 have b1:=JV.fresh (gen:=0) (p:=p) (B:=W2.heap.size) (u:=a_ b_ 0 0) (us:=[]) (rows:=[]) cr (Par.Own.nil _ _ _) rfl (by rw[bk];simp) (λi hi=>by simp at hi) O_;have ct:∀j,GF W2 W1 W2 (a_ b_ 0 0) j->j=W1.heap.size:=λj hj=>by
  rcases hj with hj|hj|⟨hj,-,o,ho,-⟩
  ·exact hj
  ·cases hj
  have:=F_ ho;omega
 have b2:x_ (OI w p F W1 t 0 (a_ b_ 0 0) [] [] [] F1 (GF W2 W1 W2 (a_ b_ 0 0)) W2):=Z_ ⟨c9.o.below cl,⟨_,_,b1⟩,df.o.trans' (Kept.ar cl),dv.o,λj hj=>by rw[ct j hj];exact df.o.size,λj hj hf=>by have:=c9.o.lt j hf;rw[ct j hj]at this;omega⟩;have cm:=Z_ b1;have b3:=Z_ (rK W2 p t F1 b2.o.fs ⟨#[98,97,115,101]⟩ (by decide) (λf hf=>by have:=cp.1.data f hf;have:=HB.o;omega));rw[show(Mz #[98,97,115,101]).data.toList=dj from rfl]at b3;generalize en:GF W2 W1 W2 (a_ b_ 0 0)=G2 at*;clear b1 ct en cp;cases bm:aj af.name dj t.files with
 |none=>
  have U:=Z_ (gK (st:=t) (s:=dj) (by decide) bm);have bd:x_ (cw t=c_ (0,[])):=Z_ (by unfold cw;rw[bm]);clear bm;go_wp2_with fail;rw[<-bk];refine b3.o.mono ?_;rintro e w3 ⟨bB,D⟩;rw[U.o]at D;simp only at D;subst D;obtain⟨g,hg⟩:=N_ (0);obtain⟨ps,cu⟩:∃ps:List (List UInt8),ps=[]:=⟨_,rfl⟩;have HO:x_ (OI w p F W1 t g (a_ b_ 0 0) [] ps [] F1 G2 w3):=Z_ (by rw[hg,cu];exact b2.o.below bB);rw[<-hg,<-cu]at bd;clear hg cu b2 cm b3 bB U;obtain⟨G3,eb⟩:=N_ (G2);rw[<-eb]at HO;clear eb cr cl bk;have eo:((11:Int)==0)=false:=by decide
  have Z:=Z_ (rK w3 p t F1 HO.o.fs ⟨#[108,111,103]⟩ (by decide) (λf hf=>by have:=a2.o.1.data f hf;have:=HB.o;omega));rw[show(Mz #[108,111,103]).data.toList=aK from rfl]at Z;have K:x_ (aW st=if(bX t g).2=0 then((bX t g).1,.ok (g,ps,cO t g))else((bX t g).1,.error (bX t g).2)):=Z_ (by rw[bj.o,bd.o]);clear bj bd;cases V:aj af.name aK t.files with
  |none=>
   have U:=Z_ (gK (st:=t) (s:=aK) (by decide) V);have X:x_ (bX t g=(t,0)/\cO t g=[]):=Z_ (by unfold bX cO;rw[V];exact⟨rfl,rfl⟩);clear V;go_wp2_with fail;refine Z.o.mono ?_;rintro e w5 ⟨ad,D⟩;rw[U.o]at D;simp only at D;subst D;have J:=Z_ (HO.o.below ad);clear Z ad HO;go_wp2
   go_ret2
   rw[K.o,X.o.1,X.o.2];exact⟨F1,J.o.fs,J.o.kept,J.o.iu,W1.heap.size,G3,rfl,J.o.done,J.o.new⟩
  |some f2=>
   have U:=Z_ (dY (st:=t) (s:=aK) (by decide) V);have b5:f2.data.length<=2000000:=by have:=a2.o.1.data f2 (aV V).1;have:=HB.o;omega
   have X:x_ (bX t g=(if bD (aU g (dM f2.data))<f2.data.length then aF t aK (bD (aU g (dM f2.data)):Nat)else(t,0))/\cO t g=dR (aU g (dM f2.data))):=Z_ (by unfold bX cO;rw[V];exact⟨rfl,rfl⟩);clear V;go_wp2_with fail;refine Z.o.mono ?_;rintro e w5 ⟨ad,D⟩;rw[U.o]at D;simp only at D;obtain⟨u5,rfl,ak⟩:=D;obtain⟨A5,c5,M⟩:=ak.form;rw[t_]at M;subst M;have J:=Z_ (HO.o.below ad);have b6:∀j,G3 j->j<w3.heap.size:=by
    obtain⟨bv,bs,hj⟩:=HO.o.jv;exact hj.lt
   obtain⟨cv,cx,cb⟩:=J.o.jv;have bf:=Z_ (pz w5 W1 p g cv (a_ b_ 0 0) cx [] ps [] G3 cb A5 c5 f2.data ((lD ak).ae λj hj=>⟨⟨(ak.lt j hj).2,λhg=>by have:=b6 j hg;have:=(ak.lt j hj).1;omega⟩,rfl⟩) b5 (by simp));clear ak b6 ad Z HO cb U;go_wp2_with fail;refine bf.o.mono ?_;rintro e w6 ⟨ev,eA,G6,rfl,bn,cc,cd⟩;rw[Kl]at bn;have O:=Z_ (J.o.GQ cc bn cd);clear bf J bn cc cd;generalize bD (aU g (dM f2.data))=E at*;generalize dR (aU g (dM f2.data))=L at*;generalize f2.data.length=N at*;by_cases cf:E<N
   ·have I:x_ (bX t g=aF t aK (E:Nat)):=Z_ (by rw[X.o.1,G_ cf])
    have HT:=Z_ (ka w6 p t F1 O.o.fs ⟨#[108,111,103]⟩ (by decide) a2.o.2 (E:Nat));rw[show(Mz #[108,111,103]).data.toList=aK from rfl,<-I.o]at HT;clear I;obtain⟨r2,cg⟩:=N_ (bX t g);rw[<-cg]at HT K;clear cg;by_cases av:r2.2=0
    ·have Y:=Z_ av
     have a1:H_ h_ 45 #[i_ (c_ ⟨p,0,b_⟩),g_ ⟨#[108,111,103]⟩,e_ d_ (E:Nat)] w6 λe w'=>e=k_ (e_ d_ 0)/\x_ (∃F',Jw w' p r2.1 F'/\Kept F1 w6 w'/\aH w6 F1 F'):=HT.o.mono (by
      rintro e w' ⟨F',rfl,h1,h2,h3⟩;exact⟨by rw[Y.o],Z_ ⟨F',h1,h2,h3⟩⟩)
     have bo:=Z_ a1;clear a1 av HT;go_wp2_with fail;refine bo.o.mono ?_;rintro e w7 ⟨rfl,HX⟩;go_wp2
     go_ret2
     obtain⟨F7,h1,h2,h3⟩:=HX.o;have I:=O.o.files h1 h2 h3;rw[K.o,Y.o,G_ rfl,X.o.2];exact⟨F7,h1,I.kept,I.iu,W1.heap.size,G6,rfl,I.done,I.new⟩
    obtain⟨er,he⟩:∃er,er=r2.2:=⟨_,rfl⟩;have cE:(er !=0)=true:=by rw[he];simpa using av
    have Y:=Z_ (KM he av);have a1:H_ h_ 45 #[i_ (c_ ⟨p,0,b_⟩),g_ ⟨#[108,111,103]⟩,e_ d_ (E:Nat)] w6 λe w'=>e=k_ (e_ d_ er)/\x_ (∃F',Jw w' p r2.1 F'/\Kept F1 w6 w'/\aH w6 F1 F'):=HT.o.mono (by
     rintro e w' ⟨F',rfl,h1,h2,h3⟩;exact⟨by rw[Y.o.1],Z_ ⟨F',h1,h2,h3⟩⟩)
    have bo:=Z_ a1;clear a1 av HT he;go_wp2_with fail;refine bo.o.mono ?_;rintro e w7 ⟨rfl,HX⟩;go_wp2
    go_ret2
    obtain⟨F7,h1,h2,h3⟩:=HX.o;have I:=O.o.files h1 h2 h3;rw[K.o,I_ Y.o.2,Y.o.1];exact⟨F7,h1,I.kept,I.iu,rfl⟩
   have I:x_ (bX t g=(t,0)):=Z_ (by rw[X.o.1,I_ cf]);go_wp2
   go_ret2
   rw[K.o,I.o,X.o.2];exact⟨F1,O.o.fs,O.o.kept,O.o.iu,W1.heap.size,G6,rfl,O.o.done,O.o.new⟩
 |some f=>
  have U:=Z_ (dY (st:=t) (s:=dj) (by decide) bm);have eC:f.data.length<=2000000:=by have:=a2.o.1.data f (aV bm).1;have:=HB.o;omega
  have ch:x_ (cw t=bP f.data):=Z_ (by unfold cw;rw[bm]);clear bm;go_wp2_with fail;rw[<-bk];refine b3.o.mono ?_;rintro e w3 ⟨bB,D⟩;rw[U.o]at D;simp only at D;obtain⟨u,rfl,hu⟩:=D;obtain⟨A,c,M⟩:=hu.form;rw[t_]at M;subst M;have cB:=Z_ (b2.o.below bB);have ec:=Z_ (cm.o.go bB);have ee:∀j,G2 j->j<W2.heap.size:=cm.o.lt;have bN:=Z_ (uJ w3 W1 p (a_ b_ 0 0) [] [] G2 ec.o A c f.data ((lD hu).ae λj hj=>⟨⟨(hu.lt j hj).2,λhg=>by have:=ee j hg;have:=(hu.lt j hj).1;omega⟩,rfl⟩) eC);clear hu ee b2 cm b3 U cr cl bk ec bB;cases bO:bP f.data with
  |none=>
   have bd:x_ (cw t=b_):=Z_ (by rw[ch.o];exact bO);rw[bO]at bN;clear bO;go_wp2_with fail;refine bN.o.mono ?_;rintro e w4 ⟨rfl,ck,-⟩;have HX:=Z_ (cB.o.alone ck);clear ck bN;go_wp2
   go_ret2
   rw[bj.o,bd.o];exact⟨F1,HX.o.1,HX.o.2,dv.o,rfl⟩
  |some x=>
   obtain⟨g,ps⟩:=x;have bd:x_ (cw t=c_ (g,ps)):=Z_ (by rw[ch.o];exact bO);rw[bO]at bN;clear bO;go_wp2_with fail;refine bN.o.mono ?_;rintro e w4 ⟨rfl,ck,eg⟩;obtain⟨e0,e2,G3,h4,h5⟩:=eg g ps rfl;have HO:=Z_ (cB.o.GQ ck h4 h5);clear ck eg h4 h5 bN cB ch;obtain⟨w3,rfl⟩:=N_ (w4);have Z:=Z_ (rK w3 p t F1 HO.o.fs ⟨#[108,111,103]⟩ (by decide) (λf hf=>by have:=a2.o.1.data f hf;have:=HB.o;omega));rw[show(Mz #[108,111,103]).data.toList=aK from rfl]at Z;have K:x_ (aW st=if(bX t g).2=0 then((bX t g).1,.ok (g,ps,cO t g))else((bX t g).1,.error (bX t g).2)):=Z_ (by rw[bj.o,bd.o]);clear bj bd;cases V:aj af.name aK t.files with
   |none=>
    have U:=Z_ (gK (st:=t) (s:=aK) (by decide) V);have X:x_ (bX t g=(t,0)/\cO t g=[]):=Z_ (by unfold bX cO;rw[V];exact⟨rfl,rfl⟩);clear V;go_wp2_with fail;refine Z.o.mono ?_;rintro e w5 ⟨ad,D⟩;rw[U.o]at D;simp only at D;subst D;have J:=Z_ (HO.o.below ad);clear Z ad HO;go_wp2
    go_ret2
    rw[K.o,X.o.1,X.o.2];exact⟨F1,J.o.fs,J.o.kept,J.o.iu,W1.heap.size,G3,rfl,J.o.done,J.o.new⟩
   |some f2=>
    have U:=Z_ (dY (st:=t) (s:=aK) (by decide) V);have b5:f2.data.length<=2000000:=by have:=a2.o.1.data f2 (aV V).1;have:=HB.o;omega
    have X:x_ (bX t g=(if bD (aU g (dM f2.data))<f2.data.length then aF t aK (bD (aU g (dM f2.data)):Nat)else(t,0))/\cO t g=dR (aU g (dM f2.data))):=Z_ (by unfold bX cO;rw[V];exact⟨rfl,rfl⟩);clear V;go_wp2_with fail;refine Z.o.mono ?_;rintro e w5 ⟨ad,D⟩;rw[U.o]at D;simp only at D;obtain⟨u5,rfl,ak⟩:=D;obtain⟨A5,c5,M⟩:=ak.form;rw[t_]at M;subst M;have J:=Z_ (HO.o.below ad);have b6:∀j,G3 j->j<w3.heap.size:=by
     obtain⟨bv,bs,hj⟩:=HO.o.jv;exact hj.lt
    obtain⟨cv,cx,cb⟩:=J.o.jv;have bf:=Z_ (pz w5 W1 p g cv (a_ b_ 0 0) cx [] ps [] G3 cb A5 c5 f2.data ((lD ak).ae λj hj=>⟨⟨(ak.lt j hj).2,λhg=>by have:=b6 j hg;have:=(ak.lt j hj).1;omega⟩,rfl⟩) b5 (by simp));clear ak b6 ad Z HO cb U;go_wp2_with fail;refine bf.o.mono ?_;rintro e w6 ⟨ev,eA,G6,rfl,bn,cc,cd⟩;rw[Kl]at bn;have O:=Z_ (J.o.GQ cc bn cd);clear bf J bn cc cd;generalize bD (aU g (dM f2.data))=E at*;generalize dR (aU g (dM f2.data))=L at*;generalize f2.data.length=N at*;by_cases cf:E<N
    ·have I:x_ (bX t g=aF t aK (E:Nat)):=Z_ (by rw[X.o.1,G_ cf])
     have HT:=Z_ (ka w6 p t F1 O.o.fs ⟨#[108,111,103]⟩ (by decide) a2.o.2 (E:Nat));rw[show(Mz #[108,111,103]).data.toList=aK from rfl,<-I.o]at HT;clear I;obtain⟨r2,cg⟩:=N_ (bX t g);rw[<-cg]at HT K;clear cg;by_cases av:r2.2=0
     ·have Y:=Z_ av
      have a1:H_ h_ 45 #[i_ (c_ ⟨p,0,b_⟩),g_ ⟨#[108,111,103]⟩,e_ d_ (E:Nat)] w6 λe w'=>e=k_ (e_ d_ 0)/\x_ (∃F',Jw w' p r2.1 F'/\Kept F1 w6 w'/\aH w6 F1 F'):=HT.o.mono (by
       rintro e w' ⟨F',rfl,h1,h2,h3⟩;exact⟨by rw[Y.o],Z_ ⟨F',h1,h2,h3⟩⟩)
      have bo:=Z_ a1;clear a1 av HT;go_wp2_with fail;refine bo.o.mono ?_;rintro e w7 ⟨rfl,HX⟩;go_wp2
      go_ret2
      obtain⟨F7,h1,h2,h3⟩:=HX.o;have I:=O.o.files h1 h2 h3;rw[K.o,Y.o,G_ rfl,X.o.2];exact⟨F7,h1,I.kept,I.iu,W1.heap.size,G6,rfl,I.done,I.new⟩
     obtain⟨er,he⟩:∃er,er=r2.2:=⟨_,rfl⟩;have cE:(er !=0)=true:=by rw[he];simpa using av
     have Y:=Z_ (KM he av);have a1:H_ h_ 45 #[i_ (c_ ⟨p,0,b_⟩),g_ ⟨#[108,111,103]⟩,e_ d_ (E:Nat)] w6 λe w'=>e=k_ (e_ d_ er)/\x_ (∃F',Jw w' p r2.1 F'/\Kept F1 w6 w'/\aH w6 F1 F'):=HT.o.mono (by
      rintro e w' ⟨F',rfl,h1,h2,h3⟩;exact⟨by rw[Y.o.1],Z_ ⟨F',h1,h2,h3⟩⟩)
     have bo:=Z_ a1;clear a1 av HT he;go_wp2_with fail;refine bo.o.mono ?_;rintro e w7 ⟨rfl,HX⟩;go_wp2
     go_ret2
     obtain⟨F7,h1,h2,h3⟩:=HX.o;have I:=O.o.files h1 h2 h3;rw[K.o,I_ Y.o.2,Y.o.1];exact⟨F7,h1,I.kept,I.iu,rfl⟩
    have I:x_ (bX t g=(t,0)):=Z_ (by rw[X.o.1,I_ cf]);go_wp2
    go_ret2
    rw[K.o,I.o,X.o.2];exact⟨F1,O.o.fs,O.o.kept,O.o.iu,W1.heap.size,G6,rfl,O.o.done,O.o.new⟩
theorem EX:∀a:List UInt8,a.length=4->∃c0 c1 c2 c3,a=[c0,c1,c2,c3]
 |[c0,c1,c2,c3],_=>⟨c0,c1,c2,c3,rfl⟩
 |[],h|[_],h|[_,_],h|[_,_,_],h|_::_::_::_::_::_,h=>by simp at h
theorem oh{n:Nat}(hn:n<4294967296)(a t:List UInt8)(j:a.length=4)(h:cj (a++t)=n):a=cy n:=by
 obtain⟨c0,c1,c2,c3,rfl⟩:=EX a j;unfold cj at h;simp at h;have h0:=c0.toNat_lt;have h1:=c1.toNat_lt;have h2:=c2.toNat_lt;have J:=c3.toNat_lt;unfold cy;have a0:c0=(n/16777216%256).toUInt8:=LD.1 (by rw[oG];omega);have D:c1=(n/65536%256).toUInt8:=LD.1 (by rw[oG];omega);have I:c2=(n/256%256).toUInt8:=LD.1 (by rw[oG];omega);have a3:c3=(n%256).toUInt8:=LD.1 (by rw[oG];omega);rw[<-a0,<-D,<-I,<-a3]
structure V3(fs:List af)(nx bs lg:Option af):Prop where
 nx:aj af.name a6 fs=nx
 bs:aj af.name dj fs=bs
 lg:aj af.name aK fs=lg
theorem V3.nil:V3 [] b_ b_ none:=⟨rfl,rfl,rfl⟩
section
variable{fs:List af}{nx bs lg:Option af}{pw:Int}
theorem V3.IU(h:V3 fs nx bs lg):bV fs a6=nx.isSome:=by rw[dt,h.nx]
theorem V3.Gn(h:V3 fs nx bs lg):bV fs aK=lg.isSome:=by rw[dt,h.lg]
theorem V3.Ij(h:V3 fs nx bs lg){f:af}(j:f.name=a6):V3 (aq af.name f fs) (c_ f) bs lg:=
 ⟨by rw[<-j];exact eN f fs,by rw[dw (by rw[j];decide),h.bs],by rw[dw (by rw[j];decide),h.lg]⟩
theorem V3.Cf(h:V3 fs nx bs lg){f:af}(j:f.name=dj):V3 (aq af.name f fs) nx (c_ f) lg:=
 ⟨by rw[dw (by rw[j];decide),h.nx],by rw[<-j];exact eN f fs,by rw[dw (by rw[j];decide),h.lg]⟩
theorem V3.xA(h:V3 fs nx bs lg){f:af}(j:f.name=aK):V3 (aq af.name f fs) nx bs (c_ f):=
 ⟨by rw[dw (by rw[j];decide),h.nx],by rw[dw (by rw[j];decide),h.bs],by rw[<-j];exact eN f fs⟩
theorem V3.Ha(h:V3 fs nx bs lg):V3 (an af.name a6 fs) b_ bs lg:=
 ⟨jz _ _,by rw[dJ (by decide),h.bs],by rw[dJ (by decide),h.lg]⟩
def tT(s:List UInt8)(o:Option af)(L:List UInt8):af:=match o with|some f=>⟨s,f.data++L,f.safe⟩|none=>⟨s,L,0⟩
theorem sO(s:List UInt8)(o:Option af)(L:List UInt8):(tT s o L).name=s:=by cases o<;>rfl
theorem zC(s L:List UInt8)(fs:List af):eJ s L fs=aq af.name (tT s (aj af.name s fs) L) fs:=by
 unfold eJ tT;cases aj af.name s fs<;>rfl
theorem V3.IM(h:V3 fs nx bs lg)(L:List UInt8):V3 (eJ aK L fs) nx bs (c_ (tT aK lg L)):=by
 rw[zC,h.lg];exact h.xA (sO _ _ _)
theorem V3.IN(h:V3 fs nx bs lg)(L:List UInt8):V3 (eJ a6 L fs) (c_ (tT a6 nx L)) bs lg:=by
 rw[zC,h.nx];exact h.Ij (sO _ _ _)
theorem uh(fs j:List af):cT ⟨0,fs⟩ j=(⟨0,fs⟩,13):=by simp[cT]
theorem zQ(hp:pw≠0)(fs j:List af):cT ⟨pw,fs⟩ j=(⟨dec pw,j⟩,0):=by simp[cT,hp]
theorem V3.append(h:V3 fs nx bs lg)(L:List UInt8):br ⟨pw,fs⟩ aK L=cT ⟨pw,fs⟩ (eJ aK L fs):=by unfold br;rw[G_ (by decide)]
theorem V3.Im(h:V3 fs nx bs lg)(b:List UInt8):aD b 0 ⟨pw,fs⟩=cT ⟨pw,fs⟩ (eJ a6 b fs):=by
 show br ⟨pw,fs⟩ a6 b=_;unfold br;rw[G_ (by decide)]
theorem V3.Io(h:V3 fs nx bs lg){f:af}(hx:nx=c_ f)(b:List UInt8):∃j,aD b 1 ⟨pw,fs⟩=cT ⟨pw,fs⟩ j/\V3 j (c_ ⟨a6,f.data,f.data.length⟩) bs lg:=by
 subst hx;have hn:=(aV h.nx).2;refine⟨_,lH (dY (st:=⟨pw,fs⟩) (by decide) h.nx),?_⟩;have:=h.Ij (f:=⟨f.name,f.data,f.data.length⟩) hn;rwa[hn]at this⊢
theorem V3.Ip(h:V3 fs nx bs lg){f:af}(hx:nx=c_ f)(b:List UInt8):∃j,aD b 2 ⟨pw,fs⟩=cT ⟨pw,fs⟩ j/\V3 j b_ (c_ ⟨dj,f.data,f.safe⟩) lg:=by
 subst hx;exact⟨_,kX (st:=⟨pw,fs⟩) (by decide) (by decide) (dY (st:=⟨pw,fs⟩) (by decide) h.nx),h.Ha.Cf rfl⟩
theorem V3.Em(h:V3 fs nx bs lg){f:af}(hx:lg=c_ f){n:Nat}(hn:n<=f.data.length):∃j,aF ⟨pw,fs⟩ aK (n:Nat)=cT ⟨pw,fs⟩ j/\V3 j nx bs (c_ ⟨aK,f.data.take n,min f.safe n⟩):=by
 subst hx;have hm:=(aV h.lg).2;refine⟨_,ji (dY (st:=⟨pw,fs⟩) (by decide) h.lg) hn,?_⟩;have:=h.xA (f:=⟨f.name,f.data.take n,min f.safe n⟩) hm;rwa[hm]at this⊢
theorem V3.Iq(h:V3 fs nx bs lg){f:af}(hx:lg=c_ f)(b:List UInt8):∃j,aD b 3 ⟨pw,fs⟩=cT ⟨pw,fs⟩ j/\V3 j nx bs (c_ ⟨aK,[],0⟩):=by
 obtain⟨j,h1,h2⟩:=h.Em (pw:=pw) hx (Km _);exact⟨j,h1,by simpa using h2⟩
theorem V3.sync(h:V3 fs nx bs lg){f:af}(hx:lg=c_ f):∃j,dx ⟨pw,fs⟩=cT ⟨pw,fs⟩ j/\V3 j nx bs (c_ ⟨aK,f.data,f.data.length⟩):=by
 subst hx;have hm:=(aV h.lg).2;have hs:=lH (dY (st:=⟨pw,fs⟩) (by decide:bS aK=true) h.lg);refine⟨_,by unfold dx;rw[G_ (by rw[h.Gn];rfl)];exact hs,?_⟩;have:=h.xA (f:=⟨f.name,f.data,f.data.length⟩) hm;rwa[hm]at this⊢
theorem V3.Ir(h:V3 fs nx bs b_):dx ⟨pw,fs⟩=(⟨pw,fs⟩,0):=by unfold dx;rw[I_ (by rw[h.Gn];decide)]
end
theorem V3.II{fs:List af}{bs lg:Option af}{pw:Int}(h:V3 fs b_ bs lg):bC ⟨pw,fs⟩=(⟨pw,fs⟩,0):=by unfold bC;rw[I_ (by rw[h.IU];decide)]
def dI(lg:Option af)(g:Nat):List (List UInt8):=match lg with|none=>[]|some f=>dR (aU g (dM f.data))
def rq(lg:Option af)(g:Nat):Option af:=match lg with
 |none=>b_
 |some f=>if bD (aU g (dM f.data))<f.data.length then c_ ⟨aK,f.data.take (bD (aU g (dM f.data))),min f.safe (bD (aU g (dM f.data)))⟩else c_ f
def iy(lg:Option af)(g:Nat):Bool:=match lg with|none=>o_|some f=>decide (bD (aU g (dM f.data))<f.data.length)
def tY(bs:Option af):Option (Nat×List (List UInt8)):=match bs with|none=>c_ (0,[])|some f=>bP f.data
theorem qR(g:Nat):∀ps:List (List UInt8),(bE g ps).length=12*ps.length+ps.flatten.length
 |[]=>rfl
 |p::ps=>by rw[dr,p_,bc,qR g ps,List.flatten_cons,p_,Jz];omega
theorem wK:aW ⟨-1,[]⟩=(⟨-1,[]⟩,.ok (0,[],[])):=rfl
