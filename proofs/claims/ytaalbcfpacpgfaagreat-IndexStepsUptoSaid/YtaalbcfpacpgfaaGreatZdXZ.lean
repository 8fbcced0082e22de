import Derived.BigRegion
import Derived.Deep.CutBlock
import Derived.Test.YtaalbcfpacpgfaaGreatZdXA
set_option linter.all false
set_option maxHeartbeats 16000000
set_option maxRecDepth 100000
open BitVec renaming ofInt->Nc
open Bool renaming false->o_,true->v_
open Go renaming Calls->H_,Value->m_,World->j_
open Go.Ending renaming returned->k_
open Go.IntKind renaming i64->d_
open Go.Lib renaming byteCells->l_
open Go.Obj renaming cells->f_
open Go.Program renaming elem->K7
open Go.Proofs.Tryz renaming prog->h_
open Go.RowKit renaming Below->n_,Hid->x_,intOf->A_
open Go.Value renaming bool->u_,int->e_,pointer->i_,slice->a_,string->g_,tuple->J_
open Go.World renaming setCell->Kd
open Option renaming none->b_,some->c_
open Or renaming inl->Ke
open UInt8 renaming ofNat->Mu
namespace Go.Proofs.YtaalbcfpacpgfaaGreat
open Go.RowKit Go.Lib Go.Vfs Go.Par Go.Typ Go.Shelf
variable{w:j_}{B:Nat}
theorem oE(A:Option Addr)(n c l h:Nat)(w:j_)(t:l<=h)(D:h<=c):(Instr.slice 24 (a_ A n c) (c_ (e_ d_ (l:Int))) (c_ (e_ d_ (h:Int))) b_).run h_ w=.ok (sliced A l h c 1) w:=by
 have j:h_.underlying 24=c_ (.slice (h_.elem 24)):=by simp[K7,J9]
 have he:h_.elem 24=5:=by simp[K7,J9]
 rw[run_slice_lh w 24 _ _ _ j d_ d_ _ _ O_ O_ O_,he,My];simp[Result.andThen]
theorem nE{A:Option Addr}{c:Nat}{b:List UInt8}(hs:bw w B (a_ A b.length c) (l_ b))(l h:Nat)(D:l<=h)(K:h<=b.length):
  h<=c/\∃A2 c2,sliced A l h c 1=a_ A2 (h - l) c2/\bw w B (a_ A2 (h - l) c2) (l_ ((b.drop l).take (h - l))):=by
 obtain⟨M,c0,e,h2,O,t⟩:=hs;rw[t_]at e h2 t;injection e with G _ I;subst G I;have j:((b.drop l).take (h - l)).length=h - l:=by simp;omega
 refine⟨by omega,_,_,rfl,_,_,by rw[t_,j],by rw[t_,j];omega,by omega,λhp=>?_⟩;rw[t_,j]at hp;obtain⟨g,off,e,J,hc⟩:=t O_;rw[e,I_ O_];refine⟨g,off+l*1,by simp[Addr.add],J,λi hi=>?_⟩;rw[t_,j]at hi;rw[show off+l*1+i=off+(l+i) by omega,hc (l+i) O_];unfold l_;rw[LR,LR,Mb,G_ O_,List.getElem?_drop]
theorem lp{v:m_}{l:List UInt8}(h:bw w B v (l_ l)):(convert 24 9 v).run h_ w=.ok (g_ ⟨l.toArray⟩) w:=by
 obtain⟨A,c,rfl,hc,hm,t⟩:=h;rw[t_]at t⊢;rcases A with _|a
 ·have h0:l.length=0:=by
   rcases Nat.eq_zero_or_pos l.length with h|h
   ·exact h
   obtain⟨_,_,e,_⟩:=t h;cases e
  have:l=[]:=JH h0;subst this;rw[JP,run_convert_bytes_string _ 24 9 5 b_ 0 c J9 Tryz.underlying5 KH];rfl
 refine run_convert_bytes_back (P:=h_) w 24 9 5 a c l J9 Tryz.underlying5 KH (λj hj=>?_);obtain⟨b,off,e,_,hcell⟩:=t O_;cases e;rw[cS,hcell j hj];simp[l_,hj]
def Il(v:m_)(a:Nat)(q:Int)(bad:Bool):Obj:=f_ #[v,e_ d_ a,e_ d_ q,u_ bad] 187 (0,0)
structure SR(L:List UInt8)(B p:Nat)(v:m_)(a:Nat)(q:Int)(bad:Bool)(W:j_):Prop where
 EN:W.heap[p]?=c_ (Il v a q bad)
 dH:bw W B v (l_ L)
 low:B<=p
 at_:a<=L.length
section
variable{L:List UInt8}{B p:Nat}{v:m_}{a:Nat}{q:Int}{bad:Bool}{W W':j_}
theorem SR.cells(h:SR L B p v a q bad W):(W.cell? ⟨p,0,b_⟩=c_ v/\W.cell? ⟨p,1,b_⟩=c_ (e_ d_ a)/\W.cell? ⟨p,2,b_⟩=c_ (e_ d_ q)/\W.cell? ⟨p,3,b_⟩=c_ (u_ bad)):=aX h.EN
theorem SR.frozen(h:SR L B p v a q bad W):(W.frozen? ⟨p,0,b_⟩=o_/\W.frozen? ⟨p,1,b_⟩=o_/\W.frozen? ⟨p,2,b_⟩=o_/\W.frozen? ⟨p,3,b_⟩=o_):=aC h.EN
theorem SR.lt(h:SR L B p v a q bad W):p<W:=ao h.EN
theorem SR.ae(h:SR L B p v a q bad W)(j:∀g,g<=p->W'.heap[g]?=W.heap[g]?):SR L B p v a q bad W':=
 ⟨(j p L_).trans h.EN,h.dH.ae λb o t=>D_ (w:=W) (a:=⟨b,o,b_⟩) (j b (by have:=h.low;omega)),h.low,h.at_⟩
theorem SR.drewN(h:SR L B p v a q bad W)(n:Nat):SR L B p v a q bad (W.drewN n):=h.ae λ_ _=>rfl
theorem SR.put(h:SR L B p v a q bad W){i:Nat}{x:m_}{t:Nat}{D:Int}{j:Bool}(I:t<=L.length)
  (G:(W.setCell ⟨p,i,b_⟩ x).heap[p]?=c_ (Il v t D j)):SR L B p v t D j (W.setCell ⟨p,i,b_⟩ x):=
 ⟨G,h.dH.ae λb o G=>D_ (w:=W) (a:=⟨b,o,b_⟩) (JZ _ _ _ _ (by have:=h.low;show b≠p;omega)),h.low,I⟩
theorem SR.setAt(h:SR L B p v a q bad W){j:Nat}(t:j<=L.length):SR L B p v j q bad (W.setCell ⟨p,1,b_⟩ (.int d_ j)):=
 h.put t (by simpa[Il]using ai h.EN 1 (.int d_ j))
theorem SR.nF(h:SR L B p v a q bad W)(j:Int):SR L B p v a j bad (W.setCell ⟨p,2,b_⟩ (.int d_ j)):=
 h.put h.at_ (by simpa[Il]using ai h.EN 2 (.int d_ j))
theorem SR.jh(h:SR L B p v a q bad W)(j:Bool):SR L B p v a q j (W.setCell ⟨p,3,b_⟩ (u_ j)):=
 h.put h.at_ (by simpa[Il]using ai h.EN 3 (u_ j))
end
theorem gd{p i:Nat}{w W:j_}(h:Kept (·=p) w W)(x:m_):Kept (·=p) w (W.setCell ⟨p,i,b_⟩ x):=
 Kept.setCell (F:=(·=p)) (p:=⟨p,i,b_⟩) h (.inl rfl) x
theorem xK(L:List UInt8)(B p:Nat)(v:m_)(a n:Nat)(q:Int)(bad:Bool)(w:j_)(h:SR L B p v a q bad w)(hn:n<=255)(j:bad=v_\/L.length<a+n):
  H_ h_ 151 #[i_ (c_ ⟨p,0,b_⟩),e_ d_ n] w λe w'=>e=k_ (a_ b_ 0 0)/\SR L B p v a q v_ w'/\Kept (·=p) w w':=by
 obtain⟨A,c,rfl,hc,hm,_⟩:=h.dH.bq;obtain⟨D,G,I,J⟩:=h.cells;obtain⟨K,M,O,U⟩:=h.frozen;have V:=h.at_;have t:=Z_ h;clear h;cases bad with
 |true=>
  clear j;go_enter Tryz.func151,Tryz.ntmps151;go_wp2
  go_quiet (fail)
  go_wp2;go_ret;exact⟨rfl,(t.o.drewN _).jh v_,gd ((Kept.refl _ _).drewN _) _⟩
 |false=>
  have X:L.length<a+n:=by simpa using j
  have Y:((L.length:Int) - (a:Int)<(n:Int)):=by omega
  clear j;go_enter Tryz.func151,Tryz.ntmps151;go_wp2
  go_quiet (fail)
  go_wp2;go_ret;exact⟨rfl,(t.o.drewN _).jh v_,gd ((Kept.refl _ _).drewN _) _⟩
theorem AT(L:List UInt8)(B p:Nat)(v:m_)(a n:Nat)(q:Int)(w:j_)(h:SR L B p v a q o_ w)(hn:n<=255)(V:a+n<=L.length):
  H_ h_ 151 #[i_ (c_ ⟨p,0,b_⟩),e_ d_ n] w λe w'=>∃u,e=k_ u/\bw w' B u (l_ ((L.drop a).take n))/\SR L B p v (a+n) q o_ w'/\Kept (·=p) w w':=by
 obtain⟨A,c,rfl,hc,hm,_⟩:=h.dH.bq;obtain⟨X,A2,c2,I,J⟩:=nE h.dH a (a+n) O_ V;have j:=λw'=>oE A L.length c a (a+n) w' O_ X
 rw[I]at j;rw[Lu]at j J;obtain⟨y0,y1,y2,y3⟩:=h.cells;obtain⟨q0,q1,q2,q3⟩:=h.frozen;have t:((a+n:Nat):Int)=(a:Int)+(n:Int):=by omega
 have a1:(a:Int)+(n:Int) - (n:Int)=(a:Int):=by omega
 have a2:¬((L.length:Int) - (a:Int)<(n:Int)):=by omega
 have ad:L.length<=9223372036854775807:=by omega
 have HH:=Z_ h;have Y:=Z_ J;have Z:=Z_ I;have ak:=Z_ j;have HC:=Z_ t;clear J I h j t;go_enter Tryz.func151,Tryz.ntmps151;go_wp2
 go_quiet (fail)
 go_wp2;obtain⟨K,D⟩:=N_ ((w.drewN nq).setCell ⟨p,1,b_⟩ (e_ d_ ((a:Int)+(n:Int))));rw[<-D];have M:SR L B p (a_ A L.length c) (a+n) q o_ K:=by rw[D,<-HC.o];exact(HH.o.drewN nq).setAt V
 have U:Kept (·=p) w K:=by rw[D];exact gd ((Kept.refl _ _).drewN nq) _
 have G:bw K B (sliced A a (a+n) c 1) (l_ ((L.drop a).take n)):=by
  rw[Z.o,Lu];exact Y.o.ae λb o V=>by
   rw[D];exact D_ (w:=w) (a:=⟨b,o,b_⟩) (JZ (w.drewN nq) _ _ _ (by have:=HH.o.low;show b≠p;omega))
 obtain⟨x0,x1,x2,x3⟩:=M.cells;rw[HC.o]at x1;have O:x_ (((c=a->bw K B (a_ A n 0) (l_ ((L.drop a).take n)))/\(¬c=a->bw K B (a_ (A.map (·.add a)) n (c - a)) (l_ ((L.drop a).take n))))/\SR L B p (a_ A L.length c) (a+n) q o_ K/\Kept (·=p) w K):=Z_ ⟨⟨λe=>by subst e;simpa[sliced]using G,λe=>by simpa[sliced,e]using G⟩,M,U⟩;clear y0 y1 y2 y3 q0 q1 q2 q3 D M U G
 go_region
 go_wp2
 ·go_ret
  have e:c=a:=by assumption
  have h2:=O.o.2.1;rw[e]at h2;exact⟨_,rfl,(O.o.1.1 e).drewN 1,h2.drewN 1,O.o.2.2.drewN 1⟩
 go_ret;exact⟨_,rfl,(O.o.1.2 (by assumption)).drewN 1,O.o.2.1.drewN 1,O.o.2.2.drewN 1⟩
end Go.Proofs.YtaalbcfpacpgfaaGreat
namespace Go.Typ
def cI(l:List UInt8):Nat:=l.foldl (λs x=>s*256+x.toNat) 0
theorem iQ:∀l:List UInt8,cI l<256^l.length:=by
 have key:∀(l:List UInt8) (s:Nat),l.foldl (λs x=>s*256+x.toNat) s<(s+1)*256^l.length:=by
  intro l
  induction l with
  |nil=>intro s;simp
  |cons x l j=>
   intro s;have h:=j (s*256+x.toNat);have hx:=x.toNat_lt;rw[LU,Jz,Nat.pow_succ];refine Kc h ?_;rw[Nat.mul_comm (256^l.length) 256,<-Nat.mul_assoc];exact Nat.mul_le_mul_right _ O_
 intro l;have:=key l 0;simpa[cI]using this
theorem tl(l:List UInt8)(x:UInt8):cI (l++[x])=cI l*256+x.toNat:=by simp[cI]
end Go.Typ
namespace Go.Proofs.YtaalbcfpacpgfaaGreat
open Go.RowKit Go.Lib Go.Vfs Go.Par Go.Typ Go.Shelf
theorem Fc(x y:Nat)(hx:x<2^40)(D:y<256):bits .or d_ ((x*256:Nat):Int) (y:Int)=((x*256+y:Nat):Int):=by
 have j:(Nc 64 ((x*256:Nat):Int)).toNat=x*256:=by rw[BitVec.ofInt_natCast,BitVec.toNat_ofNat];exact Nat.mod_eq_of_lt O_
 have t:(Nc 64 (y:Int)).toNat=y:=by rw[BitVec.ofInt_natCast,BitVec.toNat_ofNat];exact Nat.mod_eq_of_lt O_
 have hj:x*256|||y=x*256+y:=nat_join 8 (x*256) y O_ O_
 show d_.wrap ((Nc 64 ((x*256:Nat):Int)|||Nc 64 (y:Int)).toNat:Int)=_;rw[BitVec.toNat_or,j,t,hj];unfold IntKind.wrap;simp[IntKind.signed,IntKind.bits];omega
theorem BI(L:List UInt8)(B p:Nat)(v:m_)(a n:Nat)(q:Int)(bad:Bool)(w:j_)(h:SR L B p v a q bad w)(hn:n<=4)(h1:1<=n):
  H_ h_ 125 #[i_ (c_ ⟨p,0,b_⟩),e_ d_ n] w λe w'=>(bad=o_/\a+n<=L.length/\e=k_ (e_ d_ (cI ((L.drop a).take n):Nat))/\SR L B p v (a+n) q o_ w'/\Kept (·=p) w w')\/
   ((bad=v_\/L.length<a+n)/\e=k_ (e_ d_ 0)/\SR L B p v a q v_ w'/\Kept (·=p) w w'):=by
 by_cases I:bad=v_\/L.length<a+n
 ·have Z:=Z_ (xK L B p v a n q bad w h O_ I)
  clear h;go_enter Tryz.func125,Tryz.ntmps125;go_wp2_with fail;refine Z.o.mono ?_;rintro e w2 ⟨rfl,hs,D⟩;have J:=Z_ (And.intro hs D);clear hs D;go_wp2
  go_loopw [5,12] (λsv K W=>sv=e_ d_ 0/\K=e_ d_ 0/\W=w2) (λ_ _ _=>0)
  case atStart=>exact⟨rfl,rfl,rfl⟩
  obtain⟨rfl,rfl,rfl⟩:=hrel;go_wp2;go_ret;exact .inr ⟨I,rfl,J.o.1,J.o.2⟩
 obtain⟨hf,hl⟩:bad=o_/\a+n<=L.length:=by
  constructor
  ·simpa using λh=>I (.inl h)
  apply Nat.le_of_not_lt;exact λh=>I (.inr h)
 subst hf;have Z:=Z_ (AT L B p v a n q w h O_ hl);clear h I;go_enter Tryz.func125,Tryz.ntmps125;go_wp2_with fail;refine Z.o.mono ?_;rintro e w2 ⟨u,rfl,hg,hs,D⟩;obtain⟨A,c,rfl,hc,hm,t⟩:=hg.bq;have hlen:((L.drop a).take n).length=n:=by simp;omega
 obtain⟨M,G⟩:=N_ ((L.drop a).take n);rw[<-G]at hlen t hc;rw[<-G];rw[hlen]at t hc⊢;have J:=Z_ (And.intro hs D);have ad:=Z_ t;have j:=Z_ hlen;have ak:=Z_ G;clear hs D t hg G hlen;go_wp2
 go_loopw [5,12] (λsv K W=>∃k:Nat,k<=n/\K=e_ d_ k/\sv=e_ d_ (cI (M.take k):Nat)/\∃m,W=w2.drewN m) (λ_ K _=>n - (A_ K).toNat)
 case atStart=>exact⟨0,by omega,rfl,rfl,0,rfl⟩
 obtain⟨k,D,rfl,rfl,m,rfl⟩:=hrel;by_cases a1:k<n
 ·obtain⟨b,off,x,rfl,bd,bf,hx,HX⟩:=(ad.o.drewN m).byte a1
  have O:=iQ (M.take k);have U:(M.take k).length=k:=by rw[JN];have:=j.o;omega
  have hp:256^k<=256^3:=LO O_ O_;rw[U]at O;have V:cI (M.take (k+1))=cI (M.take k)*256+x:=by
   have X:k<M.length:=by have:=j.o;omega
   have Y:=HX.o;rw[s_,w_ X]at Y;rw[y_ X,tl,<-Y];rfl
  generalize cI (M.take k)=s at*;have a2:=Fc s x O_ hx;have ba:=Z_ V;clear V U;rw[show((s*256:Nat):Int)=(s:Int)*256 by omega]at a2;have hs2:(s:Int)<=16777216:=by
   have:(256:Nat)^3=16777216:=by decide
   omega
  clear O hp;go_wp2;go_roundw
  case rel=>exact⟨k+1,by omega,by go_num,by rw[ba.o];go_num,m,rfl⟩
  simp[A_];omega
 have bb:k=n:=by omega
 subst bb;have G:M.take k=M:=Kq (by rw[j.o];exact Kh _);rw[G];go_wp2;go_ret;exact .inl ⟨trivial,hl,by rw[<-ak.o];rfl,J.o.1.drewN _,J.o.2.drewN _⟩
end Go.Proofs.YtaalbcfpacpgfaaGreat
namespace Go.Typ
open Go.RowKit Go.Lib Go.Vfs Go.Par
def nQ:List UInt8->Option (ByteArray×List UInt8)
 |[]=>b_
 |n::l=>if n.toNat<=l.length then c_ (⟨(l.take n.toNat).toArray⟩,l.drop n.toNat)else b_
def ez(g:Nat->List UInt8->Option (Ty×Nat×List UInt8)):Nat->List Ty->Nat->List UInt8->Option (List Ty×Nat×List UInt8)
 |0,xs,q,l=>c_ (xs,q,l)
 |n+1,xs,q,l=>match g q l with
  |none=>b_
  |some (T,q,l)=>ez g n (xs++[T]) q l
def dV(g:Nat->List UInt8->Option (Ty×Nat×List UInt8))(k:Int)(s:ByteArray)(q:Nat):List UInt8->Option (Ty×Nat×List UInt8)
 |[]=>b_
 |n::l=>match ez g n.toNat [] q l with
  |none=>b_
  |some (ts,q,l)=>c_ (.mk k 0 s ts,q,l)
def iO(g:Nat->List UInt8->Option (Ty×Nat×List UInt8))(q x:Nat)(l:List UInt8):Option (Ty×Nat×List UInt8):=
 if x=1 then(if 4<=l.length then c_ (.mk 1 (cI (l.take 4):Nat) ⟨#[]⟩ [],q,l.drop 4)else b_)
  else if x=2 then(match nQ l with
   |none=>b_
   |some (s,l)=>dV g 2 s q l)
  else if x=3\/x=4 then dV g (x:Int) ⟨#[]⟩ q l else b_
def jt(g:Nat->List UInt8->Option (Ty×Nat×List UInt8))(q:Nat):List UInt8->Option (Ty×Nat×List UInt8)
 |[]=>b_
 |k::l=>iO g q k.toNat l
def eH:Nat->Nat->List UInt8->Option (Ty×Nat×List UInt8)
 |0,_,_=>b_
 |f+1,q,l=>if 300<q+1 then b_ else jt (eH f) (q+1) l
def lM:Nat->List Ex->List UInt8->Option (List Ex×List UInt8)
 |0,xs,l=>c_ (xs,l)
 |n+1,xs,l=>match nQ l with
  |none=>b_
  |some (s,l)=>match eH 301 0 l with
   |none=>b_
   |some (T,_,l)=>lM n (xs++[⟨s,T⟩]) l
end Go.Typ
namespace Go.Proofs.YtaalbcfpacpgfaaGreat
open Go.RowKit Go.Lib Go.Vfs Go.Par Go.Typ Go.Shelf
def jK(L:List UInt8)(B p:Nat)(v:m_)(l:List UInt8)(q:Nat)(bad:Bool)(W:j_):Prop:=∃a,L.drop a=l/\SR L B p v a (q:Int) bad W
section
variable{L:List UInt8}{B p:Nat}{v:m_}{l:List UInt8}{q:Nat}{bad:Bool}{W W':j_}
theorem jK.ae(h:jK L B p v l q bad W)(j:∀g,g<=p->W'.heap[g]?=W.heap[g]?):jK L B p v l q bad W':=by
 obtain⟨a,h1,h2⟩:=h;exact⟨a,h1,h2.ae j⟩
theorem jK.drewN(h:jK L B p v l q bad W)(n:Nat):jK L B p v l q bad (W.drewN n):=h.ae λ_ _=>rfl
theorem jK.lt(h:jK L B p v l q bad W):p<W:=by obtain⟨a,_,h2⟩:=h;exact h2.lt
theorem jK.cells(h:jK L B p v l q bad W):∃a:Nat,(L.length=a↔l=[])/\a<=L.length/\(W.cell? ⟨p,0,b_⟩=c_ v/\W.cell? ⟨p,1,b_⟩=c_ (e_ d_ a)/\W.cell? ⟨p,2,b_⟩=c_ (e_ d_ (q:Int))/\W.cell? ⟨p,3,b_⟩=c_ (u_ bad)):=by
 obtain⟨a,h1,h2⟩:=h;refine⟨a,?_,h2.at_,h2.cells⟩;rw[<-h1,List.drop_eq_nil_iff];have:=h2.at_;omega
theorem jK.frozen(h:jK L B p v l q bad W):(W.frozen? ⟨p,0,b_⟩=o_/\W.frozen? ⟨p,1,b_⟩=o_/\W.frozen? ⟨p,2,b_⟩=o_/\W.frozen? ⟨p,3,b_⟩=o_):=by
 obtain⟨a,_,h2⟩:=h;exact h2.frozen
theorem jK.nF(h:jK L B p v l q bad W)(j:Nat):jK L B p v l j bad (W.setCell ⟨p,2,b_⟩ (e_ d_ (j:Int))):=by
 obtain⟨a,h1,h2⟩:=h;exact⟨a,h1,h2.nF j⟩
theorem jK.jh(h:jK L B p v l q bad W)(j:Bool):jK L B p v l q j (W.setCell ⟨p,3,b_⟩ (u_ j)):=by
 obtain⟨a,h1,h2⟩:=h;exact⟨a,h1,h2.jh j⟩
end
theorem s9{L l:List UInt8}{a n:Nat}(h:L.drop a=l)(j:a<=L.length):(L.length<a+n↔l.length<n):=by
 rw[<-h,Kr];omega
theorem gE(L:List UInt8)(B p:Nat)(v:m_)(l:List UInt8)(n q:Nat)(bad:Bool)(w:j_)(h:jK L B p v l q bad w)(hn:n<=4)(h1:1<=n):
  H_ h_ 125 #[i_ (c_ ⟨p,0,b_⟩),e_ d_ n] w λe w'=>∃(x:Nat) (l':List UInt8) (j:Bool),e=k_ (e_ d_ (x:Nat))/\jK L B p v l' q j w'/\Kept (·=p) w w'/\(j=o_->bad=o_/\n<=l.length/\x=cI (l.take n)/\l'=l.drop n)/\(j=v_->(bad=v_\/l.length<n)/\x=0):=by
 obtain⟨a,e,hs⟩:=h;have hr:=s9 (n:=n) e hs.at_;refine(BI L B p v a n q bad w hs hn h1).mono ?_;rintro G w' (⟨h1,h2,rfl,t,D⟩|⟨h1,rfl,t,D⟩)
 ·refine⟨_,l.drop n,o_,rfl,⟨a+n,by rw[<-e,LM],t⟩,D,λ_=>⟨h1,?_,by rw[e],rfl⟩,λh=>by cases h⟩
  rw[<-e,Kr];omega
 exact⟨0,l,v_,rfl,⟨a,e,t⟩,D,(λh=>by cases h),λ_=>⟨h1.imp_right hr.1,rfl⟩⟩
theorem Ek(L:List UInt8)(B p:Nat)(v:m_)(l:List UInt8)(n q:Nat)(bad:Bool)(w:j_)(h:jK L B p v l q bad w)(hn:n<=255):
  H_ h_ 151 #[i_ (c_ ⟨p,0,b_⟩),e_ d_ n] w λe w'=>∃(u:m_) (m l':List UInt8) (j:Bool),e=k_ u/\bw w' B u (l_ m)/\jK L B p v l' q j w'/\Kept (·=p) w w'/\(j=o_->bad=o_/\n<=l.length/\m=l.take n/\l'=l.drop n)/\(j=v_->(bad=v_\/l.length<n)/\m=[]):=by
 obtain⟨a,e,hs⟩:=h;have hr:=s9 (n:=n) e hs.at_;by_cases t:bad=v_\/L.length<a+n
 ·refine(xK L B p v a n q bad w hs hn t).mono ?_
  rintro J w' ⟨rfl,D,G⟩;exact⟨_,[],l,v_,rfl,bw.nil _ _,⟨a,e,D⟩,G,(λh=>by cases h),λ_=>⟨t.imp_right hr.1,rfl⟩⟩
 obtain⟨K,M⟩:bad=o_/\a+n<=L.length:=⟨by simpa using λh=>t (.inl h),Nat.le_of_not_lt λh=>t (.inr h)⟩;subst K;refine(AT L B p v a n q w hs hn M).mono ?_;rintro J w' ⟨u,rfl,I,D,G⟩;rw[e]at I;refine⟨u,l.take n,l.drop n,o_,rfl,I,⟨a+n,by rw[<-e,LM],D⟩,G,λ_=>⟨rfl,?_,rfl,rfl⟩,λh=>by cases h⟩;rw[<-e,Kr];omega
theorem rU(L:List UInt8)(B p:Nat)(v:m_)(l:List UInt8)(q:Nat)(bad:Bool)(w:j_)(h:jK L B p v l q bad w):
  H_ h_ 126 #[i_ (c_ ⟨p,0,b_⟩)] w λe w'=>∃(s:ByteArray) (l':List UInt8) (t:Bool),e=k_ (g_ s)/\s.size<=255/\jK L B p v l' q t w'/\Kept (·=p) w w'/\(t=o_->bad=o_/\nQ l=c_ (s,l'))/\(t=v_->bad=v_\/nQ l=b_):=by
 have HN:=Z_ (gE L B p v l 1 q bad w h (by decide) (by decide));clear h;go_enter Tryz.func126,Tryz.ntmps126;go_wp2_with fail;refine HN.o.mono ?_;rintro e w2 ⟨x,l1,D,rfl,h1,k1,G,I⟩;have hx:x<=255:=by
  cases D with
  |true=>have:=(I rfl).2;omega
  |false=>
   obtain⟨_,h2,Z,_⟩:=G rfl;have:=iQ (l.take 1);rw[JN,K2 h2,<-Z]at this;omega
 have HT:=Z_ (Ek L B p v l1 x q D w2 h1 hx);have K1:=Z_ k1;have U:=Z_ G;have ad:=Z_ I;clear h1 k1 G I HN;go_wp2_with fail;refine HT.o.mono ?_;rintro e w3 ⟨u,m,l2,j,rfl,hg,h2,k2,J,K⟩;have a1:=lp hg;have V:m.length<=255:=by
  cases j with
  |true=>rw[(K rfl).2];simp
  |false=>rw[(J rfl).2.2.1,JN];omega
 have Y:x_ (jK L B p v l2 q j w3/\Kept (·=p) w w3/\(j=o_->bad=o_/\nQ l=c_ (⟨m.toArray⟩,l2))/\(j=v_->bad=v_\/nQ l=b_)):=Z_ (by
  refine⟨h2,K1.o.trans' k2,λe=>?_,λe=>?_⟩
  ·obtain⟨O,Z,h4,h5⟩:=J e
   obtain⟨e2,h6,h7,M⟩:=U.o O;refine⟨e2,?_⟩;cases l with
   |nil=>simp at h6
   |cons c l=>
    have hc:x=c.toNat:=by rw[h7];simp[cI]
    have M:l1=l:=M;subst M;rw[nQ,<-hc,G_ Z,h4,h5]
  obtain⟨O,_⟩:=K e;cases D with
  |true=>
   refine(ad.o rfl).1.imp_right λh=>?_
   have:l=[]:=JH O_;rw[this,nQ]
  |false=>
   obtain⟨e2,h6,h7,M⟩:=U.o rfl;right;cases l with
   |nil=>rfl
   |cons c l=>
    have hc:x=c.toNat:=by rw[h7];simp[cI]
    have M:l1=l:=M;subst M;rw[nQ,<-hc,I_];rcases O with O|O
    ·cases O
    omega)
 have X:((⟨m.toArray⟩:ByteArray)).size<=255:=by show m.toArray.size<=255;simpa using V
 have ak:=Z_ X;generalize(⟨m.toArray⟩:ByteArray)=s at*;clear hg h2 k2 J K V X;go_wp2;go_ret;exact⟨s,l2,j,rfl,ak.o,Y.o.1,Y.o.2.1,Y.o.2.2.1,Y.o.2.2.2⟩
theorem ownsRow_form{w:j_}{B e k n:Nat}{v:m_}{xs:List m_}(h:w.ownsRow B e k v n xs):∃A c,v=a_ A n c:=by
 rcases h.2 with⟨e,h0⟩|⟨g,cap,cur,e,_⟩
 ·exact⟨b_,0,by rw[e,h0]⟩
 exact⟨_,cap,e⟩
structure TI(w:j_)(L:List UInt8)(B p:Nat)(v:m_)(l:List UInt8)(q:Nat)(bad:Bool)(tb:Nat)(k num:Int)(s:ByteArray)(av:m_)(W:j_):Prop where
 rs:jK L B p v l q bad W
 res:W.heap[w.heap.size]?=c_ (f_ #[e_ d_ 0,e_ d_ 0,g_ ⟨#[]⟩,a_ b_ 0 0] 61 (0,0))
 box:W.heap[tb]?=c_ (f_ #[e_ d_ k,e_ d_ num,g_ s,av] 61 (0,0))
 kept:Kept (·=p) w W
 Fp:w.heap.size<tb
 GI:p<w.heap.size
section
variable{w:j_}{L:List UInt8}{B p:Nat}{v:m_}{l:List UInt8}{q:Nat}{bad:Bool}{tb:Nat}{k num:Int}{s:ByteArray}{av:m_}{W W':j_}
theorem TI.lt(h:TI w L B p v l q bad tb k num s av W):tb<W:=ao h.box
theorem TI.call(h:TI w L B p v l q bad tb k num s av W)(t:Kept (·=p) W W'){l':List UInt8}{D:Nat}{j:Bool}(hr:jK L B p v l' D j W'):TI w L B p v l' D j tb k num s av W':=by
 have h1:=h.lt;have h2:=h.Fp;have G:=h.GI;exact⟨hr,(t.block _ O_ O_).trans h.res,(t.block _ h1 O_).trans h.box,h.kept.trans' t,h2,G⟩
theorem TI.drewN(h:TI w L B p v l q bad tb k num s av W)(n:Nat):TI w L B p v l q bad tb k num s av (W.drewN n):=⟨h.rs.drewN n,h.res,h.box,h.kept.drewN n,h.Fp,h.GI⟩
theorem TI.jh(h:TI w L B p v l q bad tb k num s av W)(j:Bool):TI w L B p v l q j tb k num s av (W.setCell ⟨p,3,b_⟩ (u_ j)):=
 h.call (gd (Kept.refl _ _) _) (h.rs.jh j)
theorem TI.kU(h:TI w L B p v l q bad tb k num s av W){i:Nat}{x:m_}{j:Int}{D:ByteArray}{t:m_}
  (G:(W.setCell ⟨tb,i,b_⟩ x).heap[tb]?=c_ (f_ #[e_ d_ k,e_ d_ j,g_ D,t] 61 (0,0))):TI w L B p v l q bad tb k j D t (W.setCell ⟨tb,i,b_⟩ x):=by
 have h1:=h.lt;have h2:=h.Fp;have I:=h.GI;refine⟨h.rs.ae λg J=>JZ _ _ _ _ (by show g≠tb;omega),?_,G,?_,h2,I⟩
 ·rw[JZ _ _ _ _ (by show w.heap.size≠tb;omega)];exact h.res
 exact Kept.setCell (F:=(·=p)) (p:=⟨tb,i,b_⟩) h.kept (.inr (by show w.heap.size<=tb;omega)) x
theorem TI.zb(h:TI w L B p v l q bad tb k num s av W)(j:Int):TI w L B p v l q bad tb k j s av (W.setCell ⟨tb,1,b_⟩ (e_ d_ j)):=h.kU (by simpa using ai h.box 1 (e_ d_ j))
theorem TI.setName(h:TI w L B p v l q bad tb k num s av W)(j:ByteArray):TI w L B p v l q bad tb k num j av (W.setCell ⟨tb,2,b_⟩ (g_ j)):=h.kU (by simpa using ai h.box 2 (g_ j))
theorem TI.setArgs(h:TI w L B p v l q bad tb k num s av W)(j:m_):TI w L B p v l q bad tb k num s j (W.setCell ⟨tb,3,b_⟩ j):=h.kU (by simpa using ai h.box 3 j)
end
variable{w W W':j_}{L l:List UInt8}{B p q tb:Nat}{v:m_}{bad:Bool}{k num:Int}{s:ByteArray}
theorem TI.grown{av:m_}{o:Obj}{row:Option Nat}(h:TI w L B p v l q bad tb k num s av W)
  (j:(W.alloc o).grownBy W' row) (hr:∀g,row=c_ g->tb<g):TI w L B p v l q bad tb k num s av W':=by
 have h1:=h.lt;have h2:=h.Fp;have t:=h.GI;have key:∀g,g<=tb->W'.heap[g]?=W.heap[g]?:=λg hle=>(j.block g (by simp;omega) (λe=>by have:=hr g e.symm;omega)).trans (z_ _ _ _ O_)
 refine⟨h.rs.ae λg j=>key g O_,(key _ O_).trans h.res,(key _ L_).trans h.box,(h.kept.alloc o).grown j λg e=>.inr (by have:=hr g e;omega),h2,t⟩
def FH(L:List UInt8)(B p:Nat)(v:m_)(q:Nat)(bd:Bool)(X:Option (Ty×Nat×List UInt8))(w:j_)(e:Ending)(w':j_):Prop:=
 ∃(T:Ty) (A:Option Addr) (c:Nat) (l':List UInt8) (q':Nat) (bad':Bool),e=k_ (cn T.kind T.num T.name A T.args.length c)/\aG (λg=>w.heap.size<=g/\g<w'.heap.size) w' (cn T.kind T.num T.name A T.args.length c) T/\
  T.args.length<=255/\jK L B p v l' q' bad' w'/\Kept (·=p) w w'/\(bad'=o_->bd=o_/\X=c_ (T,q',l')/\q<q'/\q'<=300)/\(bad'=v_->bd=v_\/X=b_)
theorem TI.fin{A:Option Addr}{c:Nat}{ts:List Ty}(h:TI w L B p v l q bad tb k num s (a_ A ts.length c) W)
  (M:aG (λg=>tb<g/\g<W.heap.size) W (cn k num s A ts.length c) (.mk k num s ts)) (O:ts.length<=255) (K:Nat) (G:Bool) (X:Option (Ty×Nat×List UInt8))
  (h1:bad=o_->G=o_/\X=c_ (.mk k num s ts,q,l)/\K<q/\q<=300) (h2:bad=v_->G=v_\/X=b_):
  ∃t,t=((((W.setCell ⟨w,0,b_⟩ (e_ d_ k)).setCell ⟨w,1,b_⟩ (e_ d_ num)).setCell ⟨w,2,b_⟩ (g_ s)).setCell ⟨w,3,b_⟩ (a_ A ts.length c))/\
   t.heap[w.heap.size]?=c_ (f_ #[e_ d_ k,e_ d_ num,g_ s,a_ A ts.length c] 61 (0,0))/\FH L B p v K G X w (k_ (cn k num s A ts.length c)) t:=by
 obtain⟨t,I,J,j⟩:=sx (e_ d_ k) (e_ d_ num) (g_ s) (a_ A ts.length c) h.res;have V:=h.lt;have Y:=h.Fp;have hp:=h.GI;have U:=j.size;refine⟨t,I,J,.mk k num s ts,A,c,l,q,bad,rfl,M.ae λg D=>⟨⟨by omega,by omega⟩,j.block g D.2 O_⟩,O,h.rs.ae λg D=>j.block g O_ O_,?_,h1,h2⟩;refine⟨j.os.trans h.kept.os,j.tape.trans h.kept.tape,j.output.trans h.kept.output,by have:=h.kept.size;omega,λg D hp=>?_⟩;exact(j.block g O_ O_).trans (h.kept.block g D hp)
theorem Cj(L:List UInt8)(B p:Nat)(v:m_)(f:Nat):∀(l:List UInt8) (q:Nat) (bad:Bool) (w:j_),jK L B p v l q bad w->q<=300->301<=f+q->
  H_ h_ 127 #[i_ (c_ ⟨p,0,b_⟩)] w (FH L B p v q bad (eH f q l) w):=by
 induction f with
 |zero=>intro l q bad w h h1 h2;omega
 |succ f ih=>
  intro l q bad w h hq hf;have IH:=Z_ ih;clear ih;obtain⟨Y,hY⟩:=N_ (eH (f+1) q l);have HY:=Z_ hY;rw[<-hY];clear hY;have g0:=h.lt;have hy:¬(p=w.heap.size):=by omega
  have ho:¬(w.heap.size=p):=by omega
  obtain⟨W1,b1⟩:=N_ ((w.setCell ⟨p,2,b_⟩ (e_ d_ ((q+1:Nat):Int))).alloc Ey);have c9:(w.setCell ⟨p,2,b_⟩ (e_ d_ ((q+1:Nat):Int))).heap.size=w.heap.size:=by simp[Kd]
  have e8:∀W:j_,n_ W W (W.alloc Ey):=λW=>B_.alloc L_ _
  have df:jK L B p v l (q+1) bad W1:=by
   obtain⟨a,e,hs⟩:=h;rw[b1];exact⟨a,e,(hs.nF _).ae λg hg=>(e8 _).block g O_⟩
  have e9:Kept (·=p) w W1:=by rw[b1];exact(gd (Kept.refl _ _) _).alloc _
  have b3:W1.heap[w.heap.size]?=c_ (f_ #[e_ d_ 0,e_ d_ 0,g_ ⟨#[]⟩,a_ b_ 0 0] 61 (0,0)):=by
   rw[b1];have:=r_ (w.setCell ⟨p,2,b_⟩ (e_ d_ ((q+1:Nat):Int))) Ey;rw[c9]at this;exact this
  obtain⟨a,-,-,y0,y1,y2,y3⟩:=h.cells;obtain⟨q0,q1,q2,q3⟩:=h.frozen;have b5:=Z_ df;have dv:=Z_ e9;have eb:=Z_ b3;have bp:((q+1:Nat):Int)=(q:Int)+1:=by omega
  rw[bp]at b1;obtain⟨a1,-,-,z0,z1,z2,z3⟩:=df.cells;rw[bp]at z2;clear h df e9 b3 bp c9 e8;obtain⟨M,fb⟩:=N_ ((bad||decide (300<q+1)));have cr:=Z_ fb;go_enter Tryz.func127,Tryz.ntmps127;go_upto_region 2 with fail;rw[show(w.setCell ⟨p,2,b_⟩ (e_ d_ ((q:Int)+1))).alloc (f_ #[e_ d_ 0,e_ d_ 0,g_ ⟨#[]⟩,a_ b_ 0 0] 61)=W1 from b1.symm];clear b1 y0 y1 y2 y3 q0 q1 q2 q3
  go_upto_if 17 with fail
  clear z0 z1 z2 z3
  go_cut []from 18 to 20 (λwx=>x_ (jK L B p v l (q+1) M wx/\Kept (·=p) w wx/\wx.heap[w.heap.size]?=c_ (f_ #[e_ d_ 0,e_ d_ 0,g_ ⟨#[]⟩,a_ b_ 0 0] 61 (0,0))))
  case first=>
   obtain⟨a1,-,-,z0,z1,z2,z3⟩:=b5.o.cells;obtain⟨q0,q1,q2,q3⟩:=b5.o.frozen;rw[show((q+1:Nat):Int)=(q:Int)+1 by omega]at z2;by_cases hg:300<q+1
   ·have g5:(300:Int)<(q:Int)+1:=by omega
    have b6:M=true:=by rw[cr.o,JR hg,Bool.or_true]
    have HE:x_ (jK L B p v l (q+1) M (W1.setCell ⟨p,3,b_⟩ (u_ v_))/\Kept (·=p) w (W1.setCell ⟨p,3,b_⟩ (u_ v_))/\(W1.setCell ⟨p,3,b_⟩ (u_ v_)).heap[w.heap.size]?=c_ (f_ #[e_ d_ 0,e_ d_ 0,g_ ⟨#[]⟩,a_ b_ 0 0] 61 (0,0))):=
     Z_ ⟨by rw[b6];exact b5.o.jh v_,gd dv.o _,(JZ _ _ _ _ (by show w.heap.size≠p;omega)).trans eb.o⟩
    clear b6;go_wp2;go_meet;exact HE
   have g5:¬((300:Int)<(q:Int)+1):=by omega
   have b6:M=bad:=by rw[cr.o,JJ hg,Bool.or_false]
   have HE:x_ (jK L B p v l (q+1) M W1/\Kept (·=p) w W1/\W1.heap[w.heap.size]?=c_ (f_ #[e_ d_ 0,e_ d_ 0,g_ ⟨#[]⟩,a_ b_ 0 0] 61 (0,0))):=
    Z_ ⟨by rw[b6];exact b5.o,dv.o,eb.o⟩
   clear b6;go_wp2;go_meet;exact HE
  obtain⟨hr,hk,hs⟩:=hcut.o;have HN:=Z_ (gE L B p v l 1 (q+1) M wc hr (by decide) (by decide));have HK:=Z_ hk;have HS:=Z_ hs;have HX:x_ ((M=o_->bad=o_/\Y=jt (eH f) (q+1) l/\q+1<=300)/\(M=v_->bad=v_\/Y=b_)):=Z_ (by
   rw[cr.o,HY.o,eH];constructor
   ·intro e
    rw[Bool.or_eq_false_iff]at e;have:=Ls e.2;exact⟨e.1,by rw[I_ this],by omega⟩
   intro e;rw[Bool.or_eq_true]at e;exact e.imp_right λe=>by rw[G_ (Kv e)])
  clear hr hk hs hcut b5 dv eb cr HY fb;go_wp2_with fail;refine HN.o.mono ?_;rintro e w2 ⟨x,l1,j,rfl,h2,k2,ec,ct⟩;have hx:x<=255:=by
   cases j with
   |true=>have:=(ct rfl).2;omega
   |false=>
    obtain⟨_,h2,h3,_⟩:=ec rfl;have:=iQ (l.take 1);rw[JN,K2 h2,<-h3]at this;omega
  go_upto_region 5 with fail;obtain⟨W3,cu⟩:=N_ (w2.alloc (f_ #[e_ d_ (x:Int),e_ d_ 0,g_ ⟨#[]⟩,a_ b_ 0 0] 61));rw[<-cu];have cv:n_ w2 w2 W3:=by rw[cu];exact B_.alloc L_ _
  have ee:TI w L B p v l1 (q+1) j w2 (x:Int) 0 ⟨#[]⟩ (a_ b_ 0 0) W3:=by
   have hz:=HK.o.size;have hA:=ao HS.o;have hB:=k2.size;refine⟨h2.ae λg hg=>cv.block g O_,(cv.block _ O_).trans ((k2.block _ O_ O_).trans HS.o),by rw[cu];exact r_ _ _,(HK.o.trans' k2).trans' (Kept.ar cv),by omega,g0⟩
  have D:x_ ((j=o_->bad=o_/\Y=iO (eH f) (q+1) x l1/\q+1<=300)/\(j=v_->(bad=v_\/Y=b_)/\x=0)):=Z_ (by
   constructor
   ·intro e
    obtain⟨e1,h3,h4,h5⟩:=ec e;obtain⟨e2,h6,h7⟩:=HX.o.1 e1;refine⟨e2,?_,h7⟩;cases l with
    |nil=>simp at h3
    |cons c l=>
     have hc:x=c.toNat:=by rw[h4];simp[cI]
     have h5:l1=l:=h5;rw[h6,jt,hc,h5]
   intro e;refine⟨?_,(ct e).2⟩;cases M with
   |true=>exact HX.o.2 rfl
   |false=>
    rcases(ct e).1 with h|h
    ·cases h
    obtain⟨e2,h6,h7⟩:=HX.o.1 rfl;have:l=[]:=JH O_;right;rw[h6,this,jt])
  have hD:p<w2:=by have:=HK.o.size;have:=k2.size;omega
  generalize w2.heap.size=tb at*;have ad:=Z_ ee;obtain⟨y0,y1,y2,y3⟩:=aX ee.box;clear ee cv h2 k2 ec ct cu HX HN HK HS
  go_upto_block 0 with fail
  go_cut []from 29 to 42 (λwx=>∃(s:ByteArray) (l3:List UInt8) (bd:Bool),x_ (TI w L B p v l3 (q+1) bd tb (x:Int) 0 s (a_ b_ 0 0) wx)/\s.size<=255/\x_ ((bd=o_->bad=o_/\Y=dV (eH f) (x:Int) s (q+1) l3/\q+1<=300)/\(bd=v_->bad=v_\/Y=b_)))
  case first=>
   obtain⟨f0,f1,f2,f3⟩:=aC ad.o.box;obtain⟨a3,-,-,r0,r1,r2,r3⟩:=ad.o.rs.cells;obtain⟨s0,s1,s2,s3⟩:=ad.o.rs.frozen;by_cases x1:x=1
   ·subst x1
    have eg:=Z_ (gE L B p v l1 4 (q+1) j W3 ad.o.rs (by decide) (by decide));go_wp2_with fail;refine eg.o.mono ?_;rintro e w4 ⟨x4,l4,bO,rfl,h4,k4,cb,cc⟩;have bb:=Z_ (ad.o.call k4 h4);have fi:=bb.o.zb (x4:Int);obtain⟨Wf,bt,bx,a2⟩:=TI.fin (A:=b_) (c:=0) (ts:=[]) (k:=1) fi (aG.leaf _ _ 1 (x4:Int) ⟨#[]⟩ b_ 0 (by simp[maxLen]) (by decide)) (by decide) q bad Y
     (by
      intro e;obtain⟨e1,h5,h6,h7⟩:=cb e;obtain⟨e2,h8,h9⟩:=D.o.1 e1;refine⟨e2,?_,by omega,h9⟩;rw[h8,iO,G_ rfl,G_ h5,h6,h7])
     (by
      intro e;cases j with
      |true=>exact(D.o.2 rfl).1
      |false=>
       rcases(cc e).1 with h|h
       ·cases h
       obtain⟨e2,h6,h7⟩:=D.o.1 rfl;right;rw[h6,iO,G_ rfl,I_ O_])
    simp only[JP]at bt bx;have HW:=Z_ bt;have bR:=Z_ bx;have cx:=Z_ a2;clear y0 y1 y2 y3 f0 f1 f2 f3 r0 r1 r2 r3 s0 s1 s2 s3 h4 k4 cb cc fi bt bx a2;obtain⟨y0,y1,y2,y3⟩:=aX bb.o.box;obtain⟨f0,f1,f2,f3⟩:=aC bb.o.box;obtain⟨r0,r1,r2,r3⟩:=aX bb.o.res;obtain⟨s0,s1,s2,s3⟩:=aC bb.o.res;have bk:=bb.o.Fp;have fr:¬(w.heap.size=tb):=by omega
    have fz:¬(tb=w.heap.size):=by omega
    go_wp2;rw[<-HW.o];obtain⟨x0,x1,x2,x3⟩:=aX bR.o;refine C_ (v:=.agg #[e_ d_ 1,e_ d_ x4,g_ ⟨#[]⟩,a_ b_ 0 0]) (by simp[results,Tryz.results127,go_sem,x0,x1,x2,x3]) rfl ?_;exact cx.o
   by_cases x2:x=2
   ·subst x2
    have eg:=Z_ (rU L B p v l1 (q+1) j W3 ad.o.rs);go_wp2_with fail;refine eg.o.mono ?_;rintro e w4 ⟨s,l4,bO,rfl,g6,h4,k4,cb,cc⟩;have bb:=Z_ (ad.o.call k4 h4);have HE:x_ ((bO=o_->bad=o_/\Y=dV (eH f) 2 s (q+1) l4/\q+1<=300)/\(bO=v_->bad=v_\/Y=b_)):=Z_ (by
     constructor
     ·intro e
      obtain⟨e1,h5⟩:=cb e;obtain⟨e2,h6,h7⟩:=D.o.1 e1;refine⟨e2,?_,h7⟩;rw[h6,iO,I_ (by decide),G_ rfl,h5]
     intro e;cases j with
     |true=>exact(D.o.2 rfl).1
     |false=>
      rcases cc e with h|h
      ·cases h
      obtain⟨e2,h6,h7⟩:=D.o.1 rfl;right;rw[h6,iO,I_ (by decide),G_ rfl,h])
    have cd:=Z_ (bb.o.setName s);clear y0 y1 y2 y3 f0 f1 f2 f3 r0 r1 r2 r3 s0 s1 s2 s3 h4 k4 cb cc;obtain⟨y0,y1,y2,y3⟩:=aX bb.o.box;obtain⟨f0,f1,f2,f3⟩:=aC bb.o.box;go_wp2;go_meet;exact⟨s,l4,bO,cd,g6,HE⟩
   by_cases x3:x=3\/x=4
   ·have HE:x_ ((j=o_->bad=o_/\Y=dV (eH f) (x:Int) ⟨#[]⟩ (q+1) l1/\q+1<=300)/\(j=v_->bad=v_\/Y=b_)):=Z_ (by
     refine⟨λe=>?_,λe=>(D.o.2 e).1⟩;obtain⟨e2,h6,h7⟩:=D.o.1 e;exact⟨e2,by rw[h6,iO,I_ x1,I_ x2,G_ x3],h7⟩)
    rcases x3 with rfl|rfl
    ·go_wp2
     go_meet;exact⟨⟨#[]⟩,l1,j,ad,by decide,HE⟩
    go_wp2;go_meet;exact⟨⟨#[]⟩,l1,j,ad,by decide,HE⟩
   have HE:x_ ((v_=o_->bad=o_/\Y=dV (eH f) (x:Int) ⟨#[]⟩ (q+1) l1/\q+1<=300)/\(v_=v_->bad=v_\/Y=b_)):=Z_ (by
    refine⟨λe=>(by cases e),λ_=>?_⟩;cases j with
    |true=>exact(D.o.2 rfl).1
    |false=>
     obtain⟨e2,h6,h7⟩:=D.o.1 rfl;right;rw[h6,iO,I_ x1,I_ x2,I_ x3])
   have cd:=Z_ (ad.o.jh v_);have g1:((x:Int)==1)=false:=by simp;omega
   have g2:((x:Int)==2)=false:=by simp;omega
   have g3:((x:Int)==3)=false:=by simp;omega
   have g4:((x:Int)==4)=false:=by simp;omega
   go_wp2;go_meet;exact⟨⟨#[]⟩,l1,v_,cd,by decide,Z_ ⟨HE.o.1,λ_=>HE.o.2 trivial⟩⟩
  obtain⟨s,l3,bd,en,c9,cB⟩:=hcut;clear y0 y1 y2 y3 D ad;have HN:=Z_ (gE L B p v l3 1 (q+1) bd wc en.o.rs (by decide) (by decide));go_wp2_with fail;refine HN.o.mono ?_;rintro e w5 ⟨n,l5,O,rfl,h5,k5,eo,cE⟩;have hn:n<=255:=by
   cases O with
   |true=>have:=(cE rfl).2;omega
   |false=>
    obtain⟨_,h2,h3,_⟩:=eo rfl;have:=iQ (l3.take 1);rw[JN,K2 h2,<-h3]at this;omega
  obtain⟨R,hR⟩:=N_ (ez (eH f) n [] (q+1) l5);have cf:x_ ((O=o_->bad=o_/\(∀ts q' l',R=c_ (ts,q',l')->Y=c_ (.mk (x:Int) 0 s ts,q',l'))/\(R=b_->Y=b_)/\q+1<=300)/\(O=v_->(bad=v_\/Y=b_)/\n=0)):=Z_ (by
   constructor
   ·intro e
    obtain⟨e1,h3,h4,h6⟩:=eo e;obtain⟨e2,h7,h8⟩:=cB.o.1 e1;refine⟨e2,?_,?_,h8⟩;all_goals
     cases l3 with
     |nil=>simp at h3
     |cons c l3=>
      have hc:n=c.toNat:=by rw[h4];simp[cI]
      have h6:l5=l3:=h6;rw[hc,h6]at hR
      intros
      rename_i g7
      rw[h7,dV,<-hR,g7]
   intro e;refine⟨?_,(cE e).2⟩;cases bd with
   |true=>exact cB.o.2 rfl
   |false=>
    rcases(cE e).1 with h|h
    ·cases h
    obtain⟨e2,h7,h8⟩:=cB.o.1 rfl;have:l3=[]:=JH O_;right;rw[h7,this,dV])
  have cd:=Z_ (en.o.call k5 h5);have g8:=Z_ hR;clear h5 k5 eo cE en cB HN hR;go_wp2
  go_loopw [5] (λiv W=>∃(k qk:Nat) (lk:List UInt8) (U:Bool) (ts:List Ty) (us:List m_) (av:m_),k<=n/\iv=e_ d_ k/\x_ (TI w L B p v lk qk U tb (x:Int) 0 s av W)/\x_ (az 61 4 aG (tb+1) (tb+1) W ts av us)/\ts.length=k/\
   x_ ((U=o_->O=o_/\ez (eH f) (n - k) ts qk lk=R/\q+1<=qk/\qk<=300)/\(U=v_->O=v_\/R=b_))) (λiv _=>n - (A_ iv).toNat)
  case atStart=>
   refine⟨0,q+1,l5,O,[],[],_,by omega,rfl,cd,Z_ (az.nil _),rfl,Z_ ⟨λe=>⟨e,?_,by omega,(cf.o.1 e).2.2.2⟩,λe=>.inl e⟩⟩;rw[g8.o];rfl
  obtain⟨k,qk,lk,U,ts,us,av,hk,rfl,HT,HR,bk,ev⟩:=hrel;obtain⟨ak,-,-,r0,r1,r2,r3⟩:=HT.o.rs.cells;obtain⟨y0,y1,y2,y3⟩:=aX HT.o.box;by_cases cF:k<n/\U=o_
  ·obtain⟨hE,rfl⟩:=cF
   obtain⟨e5,bm,ht,gi⟩:=ev.o.1 rfl;have gn:=IH.o lk qk o_ wr.drew (HT.o.rs.drewN 1) gi O_;have bB:x_ (H_ h_ 127 #[i_ (c_ ⟨p,0,b_⟩)] wr.drew λe w'=>∃(T:Ty) (A:Option Addr) (c:Nat),e=k_ (.agg #[e_ d_ T.kind,e_ d_ T.num,g_ T.name,a_ A T.args.length c])/\x_ (∃(l':List UInt8) (q':Nat) (G:Bool),aG (λg=>wr.heap.size<=g/\g<w'.heap.size) w' (cn T.kind T.num T.name A T.args.length c) T/\jK L B p v l' q' G w'/\Kept (·=p) wr.drew w'/\(G=o_->eH f qk lk=c_ (T,q',l')/\qk<q'/\q'<=300)/\(G=v_->eH f qk lk=b_))/\tb<w'.heap.size/\
     w'.cell? ⟨tb,3,b_⟩=c_ av/\w'.frozen? ⟨tb,3,b_⟩=o_/\w'.ownsRow (tb+1) 61 4 av k (us.flatMap cX)):=Z_ (by
    refine gn.mono ?_;rintro e w' ⟨T,A,c,l',q',G,rfl,hT,hF,c6,bf,eA,eC⟩;have cg:=(HT.o.drewN 1).call bf c6;refine⟨T,A,c,rfl,Z_ ⟨l',q',G,hT,c6,bf,λe=>(eA e).2,λe=>(eC e).resolve_left (by simp)⟩,cg.lt,(aX cg.box).2.2.2,(aC cg.box).2.2.2,?_⟩;have:=HT.o.Fp;have:=HT.o.GI;have ha:=az.oL (R:=aG) aG.ae (w':=w') HR.o (Lo:=tb+1) L_ L_ (λg h1 h2=>bf.block g h2 O_) bf.size;have:=ha.own;rw[bk]at this;exact this)
   obtain⟨c8,e0⟩:=N_ (us.flatMap cX);rw[<-e0]at bB;have hG:=HT.o.lt;obtain⟨bn,bo,rfl,ch,-⟩:=HR.o.form;rw[bk]at ch y3 bB HR HT;have b2:x_ (∀(T:Ty) (A:Option Addr) (c:Nat) (Z:j_) (v7:m_) (w7:j_),x_ (∃(l':List UInt8) (q':Nat) (G:Bool),aG (λg=>wr.heap.size<=g/\g<Z.heap.size) Z (cn T.kind T.num T.name A T.args.length c) T/\jK L B p v l' q' G Z/\Kept (·=p) wr.drew Z/\(G=o_->eH f qk lk=c_ (T,q',l')/\qk<q'/\q'<=300)/\(G=v_->eH f qk lk=b_))->
     w7.ownsRow (tb+1) 61 4 v7 (k+1) (c8++[e_ d_ T.kind,e_ d_ T.num,g_ T.name,a_ A T.args.length c])->(Z.alloc (f_ #[e_ d_ T.kind,e_ d_ T.num,g_ T.name,a_ A T.args.length c] 61)).grownBy w7 (a_ bn k bo).ownBlock->(v7.ownBlock=(a_ bn k bo).ownBlock\/v7.ownBlock=c_ (Z.alloc (f_ #[e_ d_ T.kind,e_ d_ T.num,g_ T.name,a_ A T.args.length c] 61)).heap.size)->
     ∃(q2:Nat) (l2:List UInt8) (j:Bool) (bg:List Ty) (bN:List m_),x_ (TI w L B p v l2 q2 j tb (x:Int) 0 s v7 (w7.setCell ⟨tb,3,b_⟩ v7))/\x_ (az 61 4 aG (tb+1) (tb+1) (w7.setCell ⟨tb,3,b_⟩ v7) bg v7 bN)/\bg.length=k+1/\
      x_ ((j=o_->O=o_/\ez (eH f) (n - (k+1)) bg q2 l2=R/\q+1<=q2/\q2<=300)/\(j=v_->O=v_\/R=b_))):=Z_ (by
    rintro T A c Z v7 w7 bj t V I;obtain⟨l',q',G,hT,c6,bf,eA,eC⟩:=bj.o;have h1:=HT.o.Fp;have h2:=HT.o.GI;have hH:wr.heap.size<=Z.heap.size:=bf.size;have cg:=(HT.o.drewN 1).call bf c6;have gp:=cg.grown V λg e=>by have:=(HR.o.lt g e).1;omega
    have hb:=az.oL (R:=aG) aG.ae (w':=Z) HR.o (Lo:=tb+1) L_ L_ (λg h1 h2=>bf.block g h2 O_) bf.size;have hd:=az.next (R:=aG) aG.ae hb (u:=cn T.kind T.num T.name A T.args.length c) (x:=T) (v':=v7) (w3:=w7) hT (λg hg=>⟨by omega,hg.2,λe=>by have:=(HR.o.lt g e).2;omega⟩) rfl _ (by rw[bk,<-e0];exact t) V I;refine⟨q',l',G,ts++[T],us++[cn T.kind T.num T.name A T.args.length c],Z_ (gp.setArgs v7),Z_ ?_,by simp[bk],Z_ ⟨λe=>?_,λe=>?_⟩⟩
    ·exact az.oL (R:=aG) aG.ae hd (Lo:=tb+1) L_ L_ (λg h1 h2=>JZ _ _ _ _ (by show g≠tb;omega)) (by simp[Kd])
    ·obtain⟨e1,e2,e3⟩:=eA e
     refine⟨e5,?_,by omega,e3⟩;rw[show n - k=(n - (k+1))+1 by omega,ez,e1]at bm;exact bm
    right;rw[show n - k=(n - (k+1))+1 by omega,ez,eC e]at bm;exact bm.symm)
   clear gn bm e0;go_wp2_with fail;refine KE (S:=λ_:j_=>True) K_ ?_;refine bI 0 57 (i_ (c_ ⟨tb,3,b_⟩)) trivial ?_;refine bI 2 59 (i_ (c_ ⟨p,0,b_⟩)) trivial ?_;refine K3 (rs:=[1,3]) K_ (by simp) ?_;intro i hi;simp only[JL,Ky,Lw]at hi;rcases hi with rfl|rfl
   ·refine fN rfl rfl (λK X=>?_)
    go_simp;refine kk X trivial ?_;refine ag 3 λK X=>?_
    go_simp;refine bB.o.mono ?_;rintro e Z ⟨T,A,c,rfl,bj,b0,u3,v3,J⟩;refine kk X trivial ?_;refine ag 4 λK X=>?_
    go_simp;refine kk X trivial ?_;refine ag 5 λK X=>?_
    refine ig _ (.tmp 58) (.tmp 61) 59 rfl (tb+1) 61 4 Iv (a_ bn k bo) k c8 rfl (Kf J _) ⟨Z,0,b_⟩ 1 1 [e_ d_ T.kind,e_ d_ T.num,g_ T.name,a_ A T.args.length c] rfl rfl (bF _ _ _) (yE _ _ _ _ _ _) O_ (by simp;omega) (λv7 w7 t V I=>?_);obtain⟨A7,c7,rfl⟩:=ownsRow_form t;have ba:w7.heap[tb]?=Z.heap[tb]?:=(V.block tb (by simp;omega) (λe=>by have:=(J.lt _ e.symm).1;omega)).trans (z_ _ _ _ b0);have u7:=(D_ (w:=Z) (a:=⟨tb,3,b_⟩) ba).trans u3;have ck:=(World.frozen?_of_block (w:=Z) (a:=⟨tb,3,b_⟩) ba).trans v3;clear ba;refine kk X trivial ?_;refine bI 6 63 (i_ (c_ ⟨tb,3,b_⟩)) trivial ?_;refine ag 7 λK X=>?_
    go_simp;refine kk X trivial ?_;refine J6 K_ ?_ _;obtain⟨q2,l2,j,bg,bN,cl,cm,cp,D⟩:=b2.o T A c Z _ w7 bj t V I;clear b2 bj t V I J u7 ck u3 v3 bB HT HR;go_wp2;go_roundw
    case rel=>exact⟨k+1,q2,l2,j,bg,bN,_,by omega,by go_num,cl,cm,cp,D⟩
    simp[A_];omega
   refine fN rfl rfl (λK X=>?_);go_simp;refine bB.o.mono ?_;rintro e Z ⟨T,A,c,rfl,bj,b0,u3,v3,J⟩;refine kk X trivial ?_;refine K3 (rs:=[1,4]) K_ (by simp) ?_;intro i hi;simp only[JL,Ky,Lw]at hi;rcases hi with rfl|rfl
   ·refine fN rfl rfl (λK X=>?_)
    go_simp;refine kk X trivial ?_;refine ag 4 λK X=>?_
    go_simp;refine kk X trivial ?_;refine ag 5 λK X=>?_
    refine ig _ (.tmp 58) (.tmp 61) 59 rfl (tb+1) 61 4 Iv (a_ bn k bo) k c8 rfl (Kf J _) ⟨Z,0,b_⟩ 1 1 [e_ d_ T.kind,e_ d_ T.num,g_ T.name,a_ A T.args.length c] rfl rfl (bF _ _ _) (yE _ _ _ _ _ _) O_ (by simp;omega) (λv7 w7 t V I=>?_);obtain⟨A7,c7,rfl⟩:=ownsRow_form t;have ba:w7.heap[tb]?=Z.heap[tb]?:=(V.block tb (by simp;omega) (λe=>by have:=(J.lt _ e.symm).1;omega)).trans (z_ _ _ _ b0);have u7:=(D_ (w:=Z) (a:=⟨tb,3,b_⟩) ba).trans u3;have ck:=(World.frozen?_of_block (w:=Z) (a:=⟨tb,3,b_⟩) ba).trans v3;clear ba;refine kk X trivial ?_;refine bI 6 63 (i_ (c_ ⟨tb,3,b_⟩)) trivial ?_;refine ag 7 λK X=>?_
    go_simp;refine kk X trivial ?_;refine J6 K_ ?_ _;obtain⟨q2,l2,j,bg,bN,cl,cm,cp,D⟩:=b2.o T A c Z _ w7 bj t V I;clear b2 bj t V I J u7 ck u3 v3 bB HT HR;go_wp2;go_roundw
    case rel=>exact⟨k+1,q2,l2,j,bg,bN,_,by omega,by go_num,cl,cm,cp,D⟩
    simp[A_];omega
   refine fN rfl rfl (λK X=>?_);go_simp;refine kk X trivial ?_;refine ag 1 λK X=>?_
   go_simp;refine kk X trivial ?_;refine ag 5 λK X=>?_
   refine ig _ (.tmp 58) (.tmp 61) 59 rfl (tb+1) 61 4 Iv (a_ bn k bo) k c8 rfl (Kf J _) ⟨Z,0,b_⟩ 1 1 [e_ d_ T.kind,e_ d_ T.num,g_ T.name,a_ A T.args.length c] rfl rfl (bF _ _ _) (yE _ _ _ _ _ _) O_ (by simp;omega) (λv7 w7 t V I=>?_);obtain⟨A7,c7,rfl⟩:=ownsRow_form t;have ba:w7.heap[tb]?=Z.heap[tb]?:=(V.block tb (by simp;omega) (λe=>by have:=(J.lt _ e.symm).1;omega)).trans (z_ _ _ _ b0);have u7:=(D_ (w:=Z) (a:=⟨tb,3,b_⟩) ba).trans u3;have ck:=(World.frozen?_of_block (w:=Z) (a:=⟨tb,3,b_⟩) ba).trans v3;clear ba;refine kk X trivial ?_;refine bI 6 63 (i_ (c_ ⟨tb,3,b_⟩)) trivial ?_;refine ag 7 λK X=>?_
   go_simp;refine kk X trivial ?_;refine J6 K_ ?_ _;obtain⟨q2,l2,j,bg,bN,cl,cm,cp,D⟩:=b2.o T A c Z _ w7 bj t V I;clear b2 bj t V I J u7 ck u3 v3 bB HT HR;go_wp2;go_roundw
   case rel=>exact⟨k+1,q2,l2,j,bg,bN,_,by omega,by go_num,cl,cm,cp,D⟩
   simp[A_];omega
  have hex:U=v_\/k=n:=by
   cases U with
   |true=>exact .inl rfl
   |false=>right;have:¬k<n:=λh=>cF ⟨h,rfl⟩;omega
  obtain⟨bn,bo,rfl,ch,hh⟩:=HR.o.form;obtain⟨A2,c2,e2,gv⟩:=HR.o.ty (x:Int) 0 s O_;injection e2 with e3 _ e4;subst e3 e4;obtain⟨Wf,bt,bx,a2⟩:=TI.fin HT.o (gv.sub λg hg=>⟨by omega,hg.2⟩) O_ q bad Y
   (by
    intro e;obtain⟨e5,hl,h1,h2⟩:=ev.o.1 e;obtain⟨e6,h3,-,h4⟩:=cf.o.1 e5;have e7:k=n:=by
     rcases hex with h|h
     ·rw[h]at e;cases e
     exact h
    rw[e7,Nat.sub_self,ez]at hl;exact⟨e6,h3 _ _ _ hl.symm,by omega,h2⟩)
   (by
    intro e;rcases ev.o.2 e with h|h
    ·exact(cf.o.2 h).1
    cases gy:O with
    |true=>exact(cf.o.2 gy).1
    |false=>exact .inr ((cf.o.1 gy).2.2.1 h))
  rw[bk]at bt bx y3;have HW:=Z_ bt;have bR:=Z_ bx;have cx:=Z_ a2;have HF:x_ (∀(r:Bool),True):=Z_ λ_=>trivial
  clear bt bx a2 gv ch hh HF;obtain⟨r4,r5,r6,r7⟩:=aX HT.o.res;obtain⟨s4,s5,s6,s7⟩:=aC HT.o.res;have hv:=HT.o.Fp;have fr:¬(w.heap.size=tb):=by omega
  have fz:¬(tb=w.heap.size):=by omega
  have gz:(if U=v_ then True else¬((k:Int)<(n:Int))):=by
   rcases hex with h|h
   ·simp[h]
   split
   ·trivial
   omega
  cases U with
  |true=>
   clear gz hex cF;go_wp2;all_goals
    rw[<-HW.o];obtain⟨x0,x1,x2,x3⟩:=aX bR.o;refine C_ (v:=.agg #[e_ d_ (x:Int),e_ d_ 0,g_ s,a_ bn k bo]) (by simp[results,Tryz.results127,go_sem,x0,x1,x2,x3]) rfl ?_;have h:=cx.o;unfold cn at h;rw[bk]at h;exact h
  |false=>
   have e7:k=n:=by simpa using hex
   clear gz hex cF;subst e7;go_wp2;all_goals
    rw[<-HW.o];obtain⟨x0,x1,x2,x3⟩:=aX bR.o;refine C_ (v:=.agg #[e_ d_ (x:Int),e_ d_ 0,g_ s,a_ bn k bo]) (by simp[results,Tryz.results127,go_sem,x0,x1,x2,x3]) rfl ?_;have h:=cx.o;unfold cn at h;rw[bk]at h;exact h
def fE(L:List UInt8):Option (List Ex):=
 if 2<=L.length/\cI (L.take 2)<=1000 then(match lM (cI (L.take 2)) [] (L.drop 2)with
  |none=>b_
  |some (xs,l)=>if l=[]/\aM xs=v_ then c_ xs else b_)
 else b_
def tP(L:List UInt8)(w:j_)(e:Ending)(w':j_):Prop:=
 n_ w.heap.size w w'/\∃v',e=k_ (J_ #[v',e_ d_ (if(fE L).isSome then 0 else 140)])/\(∀xs,fE L=c_ xs->bA (λg=>w.heap.size<=g/\g<w'.heap.size) w' v' xs)/\(fE L=b_->v'=a_ b_ 0 0)
theorem Aq(j:n_ w w W)(t:Kept (·=p) W W')(hp:w<=p):n_ w w W':=
 j.trans (t.below j.size λg e=>by omega)
theorem lB(j:n_ w w W)(h:fE L=b_):tP L w (k_ (J_ #[a_ b_ 0 0,e_ d_ 140])) W:=
 ⟨j,a_ b_ 0 0,by rw[h];rfl,(λxs e=>by rw[h]at e;cases e),λ_=>rfl⟩
theorem yk(L:List UInt8)(v:m_)(w:j_)(bx:bw w w v (l_ L)):H_ h_ 94 #[v] w (tP L w):=by
 obtain⟨P,hP⟩:=N_ (tP L w);have K:=Z_ hP;rw[<-hP];clear hP;obtain⟨p,hp⟩:=N_ (w.heap.size);obtain⟨W1,ba⟩:=N_ (w.alloc (f_ #[v,e_ d_ 0,e_ d_ 0,u_ o_] 187));have bB:n_ w w W1:=by rw[ba];exact B_.alloc L_ _
 have bN:jK L w p v L 0 o_ W1:=⟨0,rfl,by rw[ba,hp];exact r_ _ _,bx.below bB,by omega,by omega⟩;have eC:p<W1:=bN.lt;have HN:=Z_ (gE L w p v L 2 0 o_ W1 bN (by decide) (by decide));have bn:=Z_ bB;obtain⟨A,c,rfl,hc,hm,-⟩:=bx.bq;have bb:=Z_ hp;clear bx bN bB;go_enter Tryz.func94,Tryz.ntmps94;go_upto_region 2 with fail;rw[<-hp,<-ba];clear ba hp;go_wp2_with fail;refine HN.o.mono ?_;rintro e w2 ⟨n,l2,t,rfl,h2,k2,bO,bR⟩;have cg:x_ (n_ w w w2):=Z_ (Aq bn.o k2 (by rw[bb.o];exact Kh _));have cF:=Z_ h2;have e5:p<w2:=h2.lt;have hn:n<65536:=by
  cases t with
  |true=>have:=(bR rfl).2;omega
  |false=>
   obtain⟨_,h2,h3,_⟩:=bO rfl;have:=iQ (L.take 2);rw[JN,K2 h2,<-h3]at this;omega
 obtain⟨R,hR⟩:=N_ (lM n [] l2);have G:x_ ((t=o_->fE L=(if n<=1000 then(match R with
  |none=>b_
  |some (xs,l)=>if l=[]/\aM xs=v_ then c_ xs else b_)else b_))/\(t=v_->fE L=b_/\n=0)):=Z_ (by
  constructor
  ·intro e
   obtain⟨-,e1,e2,e3⟩:=bO e;rw[hR,e2,e3,fE];by_cases h:cI (L.take 2)<=1000
   ·rw[G_ ⟨e1,h⟩,G_ h]
   rw[I_ (λh'=>h h'.2),I_ h]
  intro e;obtain⟨e1,e2⟩:=bR e;refine⟨?_,e2⟩;rw[fE,I_];rintro⟨h,-⟩;rcases e1 with e1|e1
  ·cases e1
  omega)
 have HR:=Z_ hR;clear h2 k2 bO bR HN bn hR;by_cases e0:1000<n
 ·have c6:(1000:Int)<(n:Int):=by omega
  have M:x_ (P (k_ (J_ #[a_ b_ 0 0,e_ d_ 140])) w2):=Z_ (by
   rw[K.o];refine lB cg.o ?_;cases O:t with
   |true=>exact(G.o.2 O).1
   |false=>rw[G.o.1 O,I_ O_])
  go_wp2;exact M.o
 have c6:¬((1000:Int)<(n:Int)):=by omega
 go_upto_region 5 with fail;go_wp2
 go_loopw [6,7] (λsv iv W=>∃(k qk:Nat) (lk:List UInt8) (j:Bool) (xs:List Ex) (us:List m_),k<=n/\iv=e_ d_ k/\x_ (jK L w p (a_ A L.length c) lk qk j W)/\x_ (az 63 5 fA (p+1) (p+1) W xs sv us)/\xs.length=k/\x_ (n_ w w W)/\
  x_ ((j=o_->t=o_/\lM (n - k) xs lk=R)/\(j=v_->t=v_\/R=b_))) (λ_ iv _=>n - (A_ iv).toNat)
 case atStart=>exact⟨0,0,l2,t,[],[],by omega,rfl,cF,Z_ (az.nil _),rfl,cg,Z_ ⟨λe=>⟨e,by rw[HR.o];rfl⟩,λe=>.inl e⟩⟩
 obtain⟨k,qk,lk,j,xs,us,hk,rfl,HT,U,bd,HB,bf⟩:=hrel;obtain⟨ak,V,e4,r0,r1,r2,r3⟩:=HT.o.cells;by_cases bg:k<n/\j=o_
 ·obtain⟨e6,rfl⟩:=bg
  have ch:=Z_ (rU L w p (a_ A L.length c) lk qk o_ wr HT.o);go_wp2_with fail;refine ch.o.mono ?_;rintro e w3 ⟨s,l3,X,rfl,e7,h3,k3,b0,ck⟩;obtain⟨W4,bj⟩:=N_ (w3.setCell ⟨p,2,b_⟩ (e_ d_ 0));have cl:jK L w p (a_ A L.length c) l3 0 X W4:=by rw[bj];exact h3.nF 0
  have Y:Kept (·=p) wr W4:=by rw[bj];exact gd k3 _
  have cm:=Cj L w p (a_ A L.length c) 301 l3 0 X W4 cl O_ O_;obtain⟨f0,f1,f2,f3⟩:=h3.frozen;obtain⟨a3,-,-,y0,y1,y2,y3⟩:=h3.cells;have e8:=Z_ Y;obtain⟨sv,c7⟩:∃sv,sv=sv:=⟨u_ o_,rfl⟩;clear c7;have b1:x_ (H_ h_ 127 #[i_ (c_ ⟨p,0,b_⟩)] W4 λe w'=>∃(T:Ty) (A':Option Addr) (c':Nat),e=k_ (.agg #[e_ d_ T.kind,e_ d_ T.num,g_ T.name,a_ A' T.args.length c'])/\
    x_ (∃(l':List UInt8) (q':Nat) (D:Bool),aG (λg=>p+1<=g/\wr.heap.size<=g/\g<w'.heap.size) w' (cn T.kind T.num T.name A' T.args.length c') T/\jK L w p (a_ A L.length c) l' q' D w'/\Kept (·=p) wr w'/\(D=o_->lM (n - (k+1)) (xs++[⟨s,T⟩]) l'=R)/\(D=v_->R=b_))):=Z_ (by
   have e9:=HT.o.lt;obtain⟨-,hex⟩:=bf.o.1 (by simp);rw[show n - k=(n - (k+1))+1 by omega,lM]at hex;refine cm.mono ?_;rintro e w' ⟨T,A',c',l',q',D,rfl,hT,fb,c8,c9,df,dv⟩;refine⟨T,A',c',rfl,Z_ ⟨l',q',D,hT.sub λg J=>⟨by have:=Y.size;omega,by have:=Y.size;omega,J.2⟩,c8,Y.trans' c9,λe=>?_,λe=>?_⟩⟩
   ·obtain⟨e3,h5,-,-⟩:=df e
    rw[(b0 e3).2]at hex;simp only[h5]at hex;exact hex
   rw[<-hex];cases b2:X with
   |true=>
    rcases ck b2 with h|h
    ·cases h
    rw[h]
   |false=>
    rw[(b0 b2).2];have:eH 301 0 l3=none:=(dv e).resolve_left (by rw[b2];simp);simp only[this])
  clear cm h3 k3 b0 ck cl Y;rw[bd.symm]at b1;go_wp2_with fail;rw[<-bj];clear bj f0 f1 f2 f3 y0 y1 y2 y3 r0 r1 r2 r3 ch;refine b1.o.mono ?_;rintro e w5 ⟨T,A',c',rfl,HQ⟩;obtain⟨l5,q5,cp,hT,h5,k5,cr,ct⟩:=HQ.o;have fi:=h5.lt;have b3:=az.oL (R:=fA) fA.ae (w':=w5) U.o (Lo:=p+1) L_ L_ (λg h1 h2=>k5.block g h2 O_) k5.size;have Z:=b3.own;obtain⟨eb,b5⟩:=N_ (us.flatMap cX);rw[<-b5]at Z;have bo:=Z_ Z;have ec:=Z_ b3;have ee:=Z_ hT;have H5:=Z_ h5;have K5:=Z_ k5;have eg:=Z_ cr;have en:=Z_ ct;have eo:=Z_ b5;have fr:=k5.size;clear b3 hT h5 k5 cr ct HQ b1 b5;go_wp2_with (at_builtin;refine dc _ rfl _ _ _ rfl (p+1) 63 5 IG _ xs.length eb rfl (Kf Z _) ⟨w5,0,b_⟩ 1 1 [g_ s,e_ d_ T.kind,e_ d_ T.num,g_ T.name,a_ A' T.args.length c'] rfl rfl (bF _ _ _) (E9 _ _ _ _ _ _ _) O_ (by simp;omega) ?_;intro v6 w6 b6 cb cu);go_roundw
  case rel=>
   have cv:∀g,g<=p->w6.heap[g]?=w5.heap[g]?:=λg J=>(cb.block g (by simp;omega) (λe=>by have:=(bo.o.lt _ e.symm).1;omega)).trans (z_ _ _ _ O_)
   refine⟨k+1,q5,l5,cp,xs++[⟨s,T⟩],us++[zW ⟨s,T⟩ A' c'],by omega,by go_num,Z_ (H5.o.ae cv),Z_ ?_,by simp[bd],Z_ ?_,Z_ ⟨λe=>?_,λe=>?_⟩⟩
   ·refine az.next (R:=fA) fA.ae ec.o (u:=zW ⟨s,T⟩ A' c') (x:=⟨s,T⟩) ⟨A',c',rfl,by show s.size<=9223372036854775807;omega,ee.o.sub λg J=>J⟩ (λg J=>⟨J.1,J.2.2,λe=>by have:=(U.o.lt g e).2;omega⟩) rfl _ ?_ cb cu
    rw[<-eo.o];exact b6
   ·exact bK (Aq HB.o K5.o (by rw[bb.o];exact Kh _)) (by have:=HB.o.size;omega) _ cb (λg e=>by have:=(bo.o.lt g e).1;rw[<-bb.o];omega)
   ·exact⟨(bf.o.1 (by simp)).1,by rw[<-bd];exact eg.o e⟩
   exact .inr (en.o e)
  simp[A_];omega
 have hex:j=v_\/k=n:=by
  cases j with
  |true=>exact .inl rfl
  |false=>right;have:¬k<n:=λh=>bg ⟨h,rfl⟩;omega
 by_cases cc:j=v_
 ·subst cc
  have M:x_ (P (k_ (J_ #[a_ b_ 0 0,e_ d_ 140])) wr):=Z_ (by
   rw[K.o];refine lB HB.o ?_;rcases bf.o.2 rfl with h|h
   ·exact(G.o.2 h).1
   cases O:t with
   |true=>exact(G.o.2 O).1
   |false=>rw[G.o.1 O,G_ O_,h])
  clear hex bg;go_wp2;all_goals exact M.o
 have ev:j=false:=by simpa using cc
 subst ev;have eA:k=n:=by simpa using hex
 subst eA;obtain⟨e2,ad⟩:=bf.o.1 rfl;rw[Nat.sub_self,lM]at ad;have bk:=G.o.1 e2;rw[G_ O_,<-ad]at bk;simp only at bk;have cd:=Z_ bk;have bp:=(U.o.aI).sub (S':=(·<wr.heap.size)) λg J=>J.2
 have a1:=Z_ (pC xs _ wr bp);have cx:=Z_ U.o.aI;obtain⟨cB,cE,rfl,-,-⟩:=U.o.form;rw[bd]at a1 cx;clear ad bk bp hex bg cc;by_cases hl:lk=[]
 ·have bm:L.length=ak:=V.2 hl
  have g1:((ak:Int) !=(L.length:Int))=false:=by simp;omega
  by_cases I:aM xs=v_
  ·have M:∀W,n_ wr wr W->x_ (P (k_ (J_ #[a_ cB k cE,e_ d_ 0])) W):=λW O=>Z_ (by
    rw[K.o];have hd:=cd.o;rw[G_ ⟨hl,I⟩]at hd;refine⟨HB.o.trans (O.mono HB.o.size),a_ cB k cE,by rw[hd];rfl,λys e=>?_,λe=>by rw[hd]at e;cases e⟩;rw[hd]at e;injection e with e;subst e;refine cx.o.ae λg J=>⟨⟨by have:=bb.o;omega,Kc J.2 O.size⟩,O.block g J.2⟩)
   rw[I]at a1;clear V bm hl I;go_wp2_with fail;refine a1.o.mono ?_;rintro e w7 ⟨rfl,a2⟩;have cf:=M w7 a2;clear M a2;go_wp2;exact cf.o
  have bt:aM xs=false:=by simpa using I
  have M:∀W,n_ wr wr W->x_ (P (k_ (J_ #[a_ b_ 0 0,e_ d_ 140])) W):=λW O=>Z_ (by
   rw[K.o];refine lB (HB.o.trans (O.mono HB.o.size)) ?_;rw[cd.o,I_ (λh=>I h.2)])
  rw[bt]at a1;clear V bm hl I bt;go_wp2_with fail;refine a1.o.mono ?_;rintro e w7 ⟨rfl,a2⟩;have cf:=M w7 a2;clear M a2;go_wp2;exact cf.o
 have bm:¬(L.length=ak):=λh=>hl (V.1 h)
 have g1:((ak:Int) !=(L.length:Int))=true:=by simp;omega
 have M:x_ (P (k_ (J_ #[a_ b_ 0 0,e_ d_ 140])) wr):=Z_ (by
  rw[K.o];refine lB HB.o ?_;rw[cd.o,I_ (λh=>hl h.1)])
 clear V bm hl;go_wp2;all_goals exact M.o
end Go.Proofs.YtaalbcfpacpgfaaGreat
namespace Go.Typ
open Go.RowKit Go.Lib Go.Vfs Go.Par
theorem Cv{l m:List UInt8}{n:Nat}(h:n<=l.length):(l++m).take n=l.take n/\(l++m).drop n=l.drop n++m:=by
 rw[List.take_append_of_le_length h,List.drop_append_of_le_length h];exact⟨rfl,rfl⟩
theorem DK(s:ByteArray)(hs:s.size<=255)(m:List UInt8):nQ ([s.size.toUInt8]++s.data.toList++m)=c_ (s,m):=by
 have j:s.data.toList.length=s.size:=by rw[Ko];rfl
 have hn:s.size.toUInt8.toNat=s.size:=by show(Mu s.size).toNat=_;rw[K8];omega
 show nQ (s.size.toUInt8::(s.data.toList++m))=_;rw[nQ,hn,G_ (by rw[p_];omega),<-j,List.take_left,List.drop_left]
theorem zF(n:Nat)(hn:n<4294967296):cI (eK n)=n:=by
 have key:∀m:Nat,(m%256).toUInt8.toNat=m%256:=λm=>by
  show(Mu (m%256)).toNat=_;rw[K8];omega
 simp only[cI,eK,LU,List.foldl_nil,key];omega
theorem EZ{f:Nat}(ts:List Ty):∀(xs:List Ty) (q:Nat) (m:List UInt8),(∀t∈ts,∀q m,q+t.parts<=300->301<=f+q->eH f q (gM t++m)=c_ (t,q+t.parts,m))->q+aT ts<=300->301<=f+q->
  ez (eH f) ts.length xs q (jj ts++m)=c_ (xs++ts,q+aT ts,m):=by
 induction ts with
 |nil=>intro xs q m _ _ _;simp[ez,jj,aT]
 |cons t ts j=>
  intro xs q m h h1 h2;rw[aT]at h1;have:=t.dX;rw[Jz,ez,jj,JU,h t (by simp) q _ O_ h2];simp only;rw[j _ _ _ (λt D=>h t (by simp[D])) O_ O_,aT];simp only[JU,List.singleton_append]
  congr 3
  omega
theorem tX{s:ByteArray}(h:s.toList=[]):s=⟨#[]⟩:=by
 apply L7;apply Ll.mp;rw[<-KY];exact h
theorem Fv(T:Ty):fR T->bG T=v_->∀(f q:Nat) (m:List UInt8),q+T.parts<=300->301<=f+q->eH f q (gM T++m)=c_ (T,q+T.parts,m):=by
 induction T using Ty.ind with
 |h T Z=>
  intro V hS f q m hp hf;have ad:=T.dX;obtain⟨f,rfl⟩:∃f',f=f'+1:=⟨f - 1,by omega⟩;have J:=V.self;have K:=gI hS;have ak:=kV hS;have M:=T.parts_eq;rw[eH,I_ O_,gT];have D:∀(q:Nat) (m:List UInt8),q+aT T.args<=300->301<=f+q->ez (eH f) T.args.length [] q (jj T.args++m)=c_ (T.args,q+aT T.args,m):=λq m h1 h2=>by
   have:=EZ (f:=f) T.args [] q m (λt ht q m j I=>by
    obtain⟨i,hi,rfl⟩:=J4 ht;exact Z i hi (V.arg hi) (fq hS (JB hi)) f q m j I) h1 h2
   simpa using this
  have O:T.args.length.toUInt8.toNat=T.args.length:=by show(Mu T.args.length).toNat=_;rw[K8];omega
  have G:∀(k:Int) (s:ByteArray),dV (eH f) k s (q+1) ([T.args.length.toUInt8]++jj T.args++m)=c_ (.mk k 0 s T.args,q+T.parts,m):=λk s=>by
   show dV (eH f) k s (q+1) (T.args.length.toUInt8::(jj T.args++m))=_;rw[dV,O,D _ _ O_ O_];simp only
   congr 3
   omega
  have eta:∀k n s,T.kind=k->T.num=n->T.name=s->T=.mk k n s T.args:=λk n s h1 h2 j=>by
   obtain⟨k',n',s',ts⟩:=T;simp only[Ty.kind,Ty.num,Ty.name,Ty.args]at*;rw[h1,h2,j]
  rcases eu J with⟨h1,h2,j,I,h5⟩|⟨h1,h2,j⟩|⟨h1,h2,j,I⟩|⟨h1,h2,j,I⟩
  ·have U:=tX I
   have X:T.args=[]:=JH h5;rw[h1,G_ rfl];show jt (eH f) (q+1) (((1:Int).toNat.toUInt8)::(eK T.num.toNat++m))=_;rw[jt,show((1:Int).toNat.toUInt8).toNat=1 from rfl,iO,G_ rfl,G_ (by rw[p_,bz];omega)];obtain⟨e1,e2⟩:=Cv (l:=eK T.num.toNat) (m:=m) (n:=4) (by rw[bz];exact Kh _);rw[e1,e2,Kq (by rw[bz];exact Kh _),L6 (by rw[bz];exact Kh _),zF _ O_,Int.toNat_of_nonneg h2];have Y:=eta 1 T.num ⟨#[]⟩ h1 rfl U;rw[X]at Y;rw[<-Y,M,X,aT];simp
  ·rw[h1,I_ (by decide),G_ rfl]
   have e:[((2:Int).toNat.toUInt8)]++([T.name.size.toUInt8]++T.name.data.toList++([T.args.length.toUInt8]++jj T.args))++m=((2:Int).toNat.toUInt8)::([T.name.size.toUInt8]++T.name.data.toList++([T.args.length.toUInt8]++jj T.args++m)):=by simp
   rw[e,jt,show((2:Int).toNat.toUInt8).toNat=2 from rfl,iO,I_ (by decide),G_ rfl,DK _ K];simp only;rw[G,<-eta 2 0 T.name h1 h2 rfl]
  ·rw[h1,I_ (by decide),I_ (by decide),Kl]
   show jt (eH f) (q+1) (((3:Int).toNat.toUInt8)::([T.args.length.toUInt8]++jj T.args++m))=_;rw[jt,show((3:Int).toNat.toUInt8).toNat=3 from rfl,iO,I_ (by decide),I_ (by decide),G_ (.inl rfl),G];show c_ (Ty.mk 3 0 ⟨#[]⟩ T.args,_,_)=_;rw[<-eta 3 0 ⟨#[]⟩ h1 h2 (tX j)]
  rw[h1,I_ (by decide),I_ (by decide),Kl];show jt (eH f) (q+1) (((4:Int).toNat.toUInt8)::([T.args.length.toUInt8]++jj T.args++m))=_;rw[jt,show((4:Int).toNat.toUInt8).toNat=4 from rfl,iO,I_ (by decide),I_ (by decide),G_ (.inr rfl),G];show c_ (Ty.mk 4 0 ⟨#[]⟩ T.args,_,_)=_;rw[<-eta 4 0 ⟨#[]⟩ h1 h2 (tX j)]
end Go.Typ
namespace Go.Proofs.YtaalbcfpacpgfaaGreat
open Go.RowKit Go.Lib Go.Vfs Go.Par Go.Typ Go.Shelf
theorem EU(xs:List Ex):∀(j:List Ex) (m:List UInt8),(∀x∈xs,x.name.size<=255/\cJ x.ty=v_/\bG x.ty=v_)->lM xs.length j (fP xs++m)=c_ (j++xs,m):=by
 induction xs with
 |nil=>intro j m _;simp[lM,fP]
 |cons x xs t=>
  intro j m h;obtain⟨h1,h2,D⟩:=h x (by simp);obtain⟨J,G⟩:=cU.1 h2;have e:fP (x::xs)++m=[x.name.size.toUInt8]++x.name.data.toList++(gM x.ty++(fP xs++m)):=by simp[fP,Bo]
  rw[Jz,lM,e,DK _ h1];simp only;rw[Fv x.ty G D 301 0 _ O_ O_];simp only;rw[t _ _ (λy I=>h y (by simp[I]))];simp
theorem fp{xs:List Ex}(h:aM xs=v_):∀x∈xs,x.name.size<=255/\cJ x.ty=v_/\bG x.ty=true:=λx hx=>by
 obtain⟨i,hi,rfl⟩:=J4 hx;obtain⟨h1,-,h2,j⟩:=kQ h hi;exact⟨h1,jc h2,j⟩
theorem ym{xs:List Ex}(h:aM xs=v_)(m:List UInt8):2<=(et xs++m).length/\cI ((et xs++m).take 2)=xs.length/\(et xs++m).drop 2=fP xs++m:=by
 have D:=eD h;refine⟨by simp[et],?_,by simp[et]⟩;have j:(xs.length/256).toUInt8.toNat=xs.length/256:=by show(Mu (xs.length/256)).toNat=_;rw[K8];omega
 have t:xs.length.toUInt8.toNat=xs.length%256:=by show(Mu xs.length).toNat=_;rw[K8]
 simp only[et,Ka,Kl,List.take_succ_cons,List.take_zero,cI,LU,List.foldl_nil,j,t];omega
theorem vH{xs:List Ex}(h:aM xs=v_)(m:List UInt8):fE (et xs++m)=if m=[]then c_ xs else none:=by
 obtain⟨h1,h2,j⟩:=ym h m;have t:=eD h;rw[fE,G_ ⟨h1,by rw[h2];exact t⟩,h2,j,EU xs [] m (fp h)];simp only[Kl];by_cases hm:m=[]
 ·rw[G_ ⟨hm,h⟩,G_ hm]
 rw[I_ (λe=>hm e.1),I_ hm]
end Go.Proofs.YtaalbcfpacpgfaaGreat
namespace Go.Typ
open Go.RowKit Go.Lib Go.Vfs Go.Par
variable{l l':List UInt8}{s:ByteArray}{k:Int}{q:Nat}
theorem iY(c:UInt8):c.toNat.toUInt8=c:=by
 show Mu c.toNat=c;exact UInt8.ofNat_toNat
theorem yC(h:nQ l=c_ (s,l')):[s.size.toUInt8]++s.data.toList++l'=l/\s.size<=255:=by
 cases l with
 |nil=>cases h
 |cons c l=>
  rw[nQ]at h;split at h
  ·rename_i hc
   injection h with h;injection h with h1 h2;have j:s.data.toList=l.take c.toNat:=by rw[<-h1]
   have hs:s.size=c.toNat:=by
    have:s.data.toList.length=s.size:=by rw[Ko];rfl
    rw[<-this,j,JN];omega
   refine⟨?_,by rw[hs];have:=c.toNat_lt;omega⟩;rw[hs,j,<-h2,iY,JU,KJ];rfl
  cases h
theorem Ge(h:l.length=4):eK (cI l)=l:=by
 match l,h with
 |[a,b,c,d],_=>
  have I:=a.toNat_lt;have J:=b.toNat_lt;have hc:=c.toNat_lt;have K:=d.toNat_lt;have e:cI [a,b,c,d]=((a.toNat*256+b.toNat)*256+c.toNat)*256+d.toNat:=by simp[cI]
  rw[e,eK];have j:(((a.toNat*256+b.toNat)*256+c.toNat)*256+d.toNat)/16777216%256=a.toNat:=by omega
  have t:(((a.toNat*256+b.toNat)*256+c.toNat)*256+d.toNat)/65536%256=b.toNat:=by omega
  have D:(((a.toNat*256+b.toNat)*256+c.toNat)*256+d.toNat)/256%256=c.toNat:=by omega
  have G:(((a.toNat*256+b.toNat)*256+c.toNat)*256+d.toNat)%256=d.toNat:=by omega
  rw[j,t,D,G,iY,iY,iY,iY]
theorem E5{g:Nat->List UInt8->Option (Ty×Nat×List UInt8)}(D:∀q l T j l',g q l=c_ (T,j,l')->gM T++l'=l):
  ∀(n:Nat) (xs:List Ty) (q:Nat) (l:List UInt8) (ts:List Ty) (j:Nat) (l':List UInt8),ez g n xs q l=c_ (ts,j,l')->∃us,ts=xs++us/\us.length=n/\jj us++l'=l:=by
 intro n
 induction n with
 |zero=>intro xs q l ts j l' h;rw[ez]at h;injection h with h;injection h with h1 h2;injection h2 with h2 G;exact⟨[],by simp[h1],rfl,by simp[jj,G]⟩
 |succ n I=>
  intro xs q l ts j l' h;rw[ez]at h;cases t:g q l with
  |none=>rw[t]at h;cases h
  |some x=>
   obtain⟨T,O,l1⟩:=x;rw[t]at h;obtain⟨us,J,K,M⟩:=I _ _ _ _ _ _ h;refine⟨T::us,by rw[J];simp,by simp[K],?_⟩;rw[jj,JU,M];exact D _ _ _ _ _ t
theorem vt{g:Nat->List UInt8->Option (Ty×Nat×List UInt8)}(G:∀q l T j l',g q l=c_ (T,j,l')->gM T++l'=l){T:Ty}{j:Nat}
  (h:dV g k s q l=c_ (T,j,l')):∃ts,T=.mk k 0 s ts/\[ts.length.toUInt8]++jj ts++l'=l:=by
 cases l with
 |nil=>cases h
 |cons c l=>
  rw[dV]at h;cases t:ez g c.toNat [] q l with
  |none=>rw[t]at h;cases h
  |some x=>
   obtain⟨ts,M,l1⟩:=x;rw[t]at h;simp only at h;injection h with h;injection h with h1 h2;injection h2 with h2 I;obtain⟨us,D,J,K⟩:=E5 G _ _ _ _ _ _ _ t;rw[Kl]at D;subst D;refine⟨ts,h1.symm,?_⟩;rw[J,iY,JU,<-I,K];rfl
theorem Fz(s:ByteArray)(ts:List Ty):gM (.mk 2 0 s ts)=[2]++([s.size.toUInt8]++s.data.toList++([ts.length.toUInt8]++jj ts)):=by rw[gT];rfl
theorem FA(h1:¬k=1)(h2:¬k=2)(ts:List Ty):gM (.mk k 0 ⟨#[]⟩ ts)=[k.toNat.toUInt8]++([ts.length.toUInt8]++jj ts):=by
 rw[gT];show [k.toNat.toUInt8]++(if k=1 then _ else(if k=2 then _ else [])++_)=_;rw[I_ h1,I_ h2];rfl
theorem FB(n:Int):gM (.mk 1 n ⟨#[]⟩ [])=[1]++eK n.toNat:=by rw[gT];rfl
theorem Fw(f:Nat):∀(q:Nat) (l:List UInt8) (T:Ty) (j:Nat) (l':List UInt8),eH f q l=c_ (T,j,l')->gM T++l'=l:=by
 induction f with
 |zero=>intro q l T j l' h;cases h
 |succ f J=>
  intro q l T j l' h;rw[eH]at h;split at h
  ·cases h
  cases l with
  |nil=>cases h
  |cons c l=>
   rw[jt]at h;unfold iO at h;split at h
   ·rename_i h1
    split at h
    ·rename_i V
     injection h with h;injection h with M K;injection K with K O;have t:c=1:=LD.mp (by rw[h1];rfl);rw[<-M,<-O,FB,Lh,Ge (by rw[JN];omega),JU,KJ,t];rfl
    cases h
   rename_i h1
   split at h
   ·rename_i h2
    cases hn:nQ l with
    |none=>rw[hn]at h;cases h
    |some x=>
     obtain⟨s,l1⟩:=x;rw[hn]at h;obtain⟨ts,D,G⟩:=vt J h;obtain⟨U,-⟩:=yC hn;have I:c=2:=LD.mp (by rw[h2];rfl);rw[D,Fz,<-U,<-G,I];simp
   rename_i h2
   split at h
   ·rename_i X
    obtain⟨ts,D,G⟩:=vt J h;rw[D,FA O_ O_,Lh,iY,<-G];simp
   cases h
theorem EV:∀(n:Nat) (xs:List Ex) (l:List UInt8) (t:List Ex) (l':List UInt8),lM n xs l=c_ (t,l')->∃j,t=xs++j/\j.length=n/\fP j++l'=l:=by
 intro n
 induction n with
 |zero=>intro xs l t l' h;rw[lM]at h;injection h with h;injection h with h1 h2;exact⟨[],by simp[h1],rfl,by simp[fP,h2]⟩
 |succ n G=>
  intro xs l t l' h;rw[lM]at h;cases hn:nQ l with
  |none=>rw[hn]at h;cases h
  |some x=>
   obtain⟨s,l1⟩:=x;rw[hn]at h;simp only at h;cases D:eH 301 0 l1 with
   |none=>rw[D]at h;cases h
   |some y=>
    obtain⟨T,U,l2⟩:=y;rw[D]at h;obtain⟨j,I,J,K⟩:=G _ _ _ _ h;obtain⟨M,-⟩:=yC hn;have O:=Fw _ _ _ _ _ _ D;refine⟨⟨s,T⟩::j,by rw[I];simp,by simp[J],?_⟩;rw[fP,Bo,<-M,<-O,<-K];simp
def oY(g:Nat->List UInt8->Option (Ty×Nat×List UInt8))(q x:Nat)(l:List UInt8):Option (Ty×Nat×List UInt8):=
 if x=1 then(if 4<=l.length then c_ (.mk 1 (cI (l.take 4):Nat) ⟨#[]⟩ [],q,l.drop 4)else b_)
  else if x=2 then(match nQ l with
   |none=>b_
   |some (s,l)=>dV g 2 s q l)
  else dV g (x:Int) ⟨#[]⟩ q l
def sR(g:Nat->List UInt8->Option (Ty×Nat×List UInt8))(q:Nat):List UInt8->Option (Ty×Nat×List UInt8)
 |[]=>b_
 |k::l=>oY g q k.toNat l
def ie:Nat->Nat->List UInt8->Option (Ty×Nat×List UInt8)
 |0,_,_=>b_
 |f+1,q,l=>if 300<q+1 then b_ else sR (ie f) (q+1) l
def mo:Nat->List Ex->List UInt8->Option (List Ex×List UInt8)
 |0,xs,l=>c_ (xs,l)
 |n+1,xs,l=>match nQ l with
  |none=>b_
  |some (s,l)=>match ie 301 0 l with
   |none=>b_
   |some (T,_,l)=>mo n (xs++[⟨s,T⟩]) l
theorem Gs{g t:Nat->List UInt8->Option (Ty×Nat×List UInt8)}(D:∀q l r,g q l=c_ r->t q l=c_ r):
  ∀(n:Nat) (xs:List Ty) (q:Nat) (l:List UInt8) (r:List Ty×Nat×List UInt8),ez g n xs q l=c_ r->ez t n xs q l=c_ r:=by
 intro n
 induction n with
 |zero=>intro xs q l r h;exact h
 |succ n G=>
  intro xs q l r h;rw[ez]at h⊢;cases j:g q l with
  |none=>rw[j]at h;cases h
  |some x=>
   rw[j]at h;rw[D _ _ _ j];exact G _ _ _ _ h
theorem zD{g t:Nat->List UInt8->Option (Ty×Nat×List UInt8)}(D:∀q l r,g q l=c_ r->t q l=c_ r){r:Ty×Nat×List UInt8}(h:dV g k s q l=c_ r):dV t k s q l=c_ r:=by
 cases l with
 |nil=>cases h
 |cons c l=>
  rw[dV]at h⊢;cases j:ez g c.toNat [] q l with
  |none=>rw[j]at h;cases h
  |some x=>rw[j]at h;rw[Gs D _ _ _ _ _ j];exact h
theorem GS(f:Nat):∀(q:Nat) (l:List UInt8) (r:Ty×Nat×List UInt8),eH f q l=c_ r->ie f q l=c_ r:=by
 induction f with
 |zero=>intro q l r h;cases h
 |succ f j=>
  intro q l r h;rw[eH]at h;rw[ie];split at h
  ·cases h
  rename_i t
  rw[I_ t];cases l with
  |nil=>cases h
  |cons c l=>
   rw[jt]at h;rw[sR];unfold iO at h;unfold oY;split at h
   ·rename_i h1
    rw[G_ h1];exact h
   rename_i h1
   rw[I_ h1];split at h
   ·rename_i h2
    rw[G_ h2];cases hn:nQ l with
    |none=>rw[hn]at h;cases h
    |some x=>rw[hn]at h;exact zD j h
   rename_i h2
   rw[I_ h2];split at h
   ·exact zD j h
   cases h
theorem Gj:∀(n:Nat) (xs:List Ex) (l:List UInt8) (r:List Ex×List UInt8),lM n xs l=c_ r->mo n xs l=c_ r:=by
 intro n
 induction n with
 |zero=>intro xs l r h;exact h
 |succ n t=>
  intro xs l r h;rw[lM]at h;rw[mo];cases hn:nQ l with
  |none=>rw[hn]at h;cases h
  |some x=>
   obtain⟨s,l1⟩:=x;rw[hn]at h;simp only at h⊢;cases j:eH 301 0 l1 with
   |none=>rw[j]at h;cases h
   |some y=>
    obtain⟨T,D,l2⟩:=y;rw[j]at h;rw[GS _ _ _ _ j];exact t _ _ _ h
end Go.Typ
namespace Go.Proofs.YtaalbcfpacpgfaaGreat
open Go.RowKit Go.Lib Go.Vfs Go.Par Go.Typ Go.Shelf
def vG(L:List UInt8):Option (List Ex):=
 if 2<=L.length then(match mo (cI (L.take 2)) [] (L.drop 2)with
  |none=>b_
  |some (xs,_)=>if aM xs=v_/\et xs=L then c_ xs else b_)
 else b_
theorem Gd{l:List UInt8}(h:l.length=2):[(cI l/256).toUInt8,(cI l).toUInt8]=l:=by
 match l,h with
 |[a,b],_=>
  have D:=a.toNat_lt;have G:=b.toNat_lt;have e:cI [a,b]=a.toNat*256+b.toNat:=by simp[cI]
  rw[e];have j:(a.toNat*256+b.toNat)/256=a.toNat:=by omega
  have t:(a.toNat*256+b.toNat).toUInt8=b:=by
   apply LD.mp;show(Mu _).toNat=_;rw[K8];omega
  rw[j,t,iY]
theorem zP{L:List UInt8}{xs:List Ex}(h:fE L=c_ xs):aM xs=v_/\et xs=L/\vG L=c_ xs:=by
 unfold fE at h;split at h
 ·rename_i hc
  cases hx:lM (cI (L.take 2)) [] (L.drop 2)with
  |none=>rw[hx]at h;cases h
  |some y=>
   obtain⟨G,l⟩:=y;rw[hx]at h;simp only at h;split at h
   ·rename_i h2
    injection h with h;subst h;obtain⟨J,j,I,t⟩:=EV _ _ _ _ _ hx;rw[Kl]at j;subst j;have D:et G=L:=by
     rw[et,I];have:=Gd (l:=L.take 2) (by rw[JN];omega);rw[this];rw[h2.1,La]at t;rw[t,KJ]
    refine⟨h2.2,D,?_⟩;rw[vG,G_ hc.1,Gj _ _ _ _ hx];simp only;rw[G_ ⟨h2.2,D⟩]
   cases h
 cases h
theorem EO(L:List UInt8):vG L=fE L:=by
 cases hx:fE L with
 |some xs=>exact(zP hx).2.2
 |none=>
  cases j:vG L with
  |none=>rfl
  |some xs=>
   exfalso;unfold vG at j;split at j
   ·cases he:mo (cI (L.take 2)) [] (L.drop 2)with
    |none=>rw[he]at j;cases j
    |some y=>
     obtain⟨t,l⟩:=y;rw[he]at j;simp only at j;split at j
     ·rename_i h2
      have:=vH h2.1 [];rw[La,h2.2,hx,G_ rfl]at this;cases this
     cases j
   cases j
