import Derived.BigRegion
import Derived.Test.YtaalbcfpacpgfaaGreatZdXA
import Derived.Test.YtaalbcfpacpgfaaGreatZdXZ
import Derived.Test.YtaalbcfpacpgfaaGreatZdJE
set_option linter.all false
set_option maxHeartbeats 16000000
set_option maxRecDepth 100000
open Bool renaming false->o_,true->v_
open Go renaming Calls->H_,Value->m_,World->j_,bytesBefore->Kk,maxLen->JT
open Go.DataW renaming insert->MT
open Go.Ending renaming returned->k_
open Go.Instr renaming slice->KO
open Go.IntKind renaming bits->KZ,i64->d_,signed->KQ,u8->KD,wrap->Lg
open Go.Lib renaming byteCells->l_
open Go.Lit renaming string->Mx
open Go.Obj renaming cells->f_
open Go.Proofs.Tryz renaming prog->h_
open Go.RowKit renaming Below->n_,Hid->x_,intOf->A_
open Go.Value renaming agg->JI,bool->u_,int->e_,slice->a_,string->g_,tuple->J_
open Option renaming isSome->MN,none->b_,some->c_
open Or renaming inl->Ke
namespace Go.Ix
open Go.RowKit Go.Lib Go.Vfs Go.Par Go.Typ
structure En where
 uri:ByteArray
 bu:Int
 aI:List Ex
theorem En.ext'{x y:En}(h1:x.uri=y.uri)(h2:x.bu=y.bu)(j:x.aI=y.aI):x=y:=by cases x;cases y;simp_all
def aB(e:En):List UInt8:=e.uri.data.toList
def eV(e:En)(A:Option Addr)(c:Nat):m_:=JI #[.string e.uri,e_ .i64 e.bu,a_ A e.aI.length c]
def bW(S:Nat->Prop)(W:j_)(v:m_)(e:En):Prop:=
 ∃A c,v=eV e A c/\e.uri.size<=9223372036854775807/\bA S W (a_ A e.aI.length c) e.aI
theorem bW.ae{S S':Nat->Prop}{w w':j_}{v:m_}{x:En}(h:bW S w v x)(j:∀b,S b->S' b/\w'.heap[b]?=w.heap[b]?):bW S' w' v x:=by
 obtain⟨A,c,e,hn,D⟩:=h;exact⟨A,c,e,hn,D.ae j⟩
def aS(S:Nat->Prop)(W:j_)(v:m_)(xs:List En):Prop:=
 ∃A c,v=a_ A xs.length c/\xs.length<=c/\c<=JT/\∃vs:Nat->m_,
  (0<xs.length->∃b off,A=c_ ⟨b,off,b_⟩/\S b/\∀i,i<xs.length->∀j,j<3->W.cell? ⟨b,off+i*3+j,b_⟩=c_ (Gl (vs i) j))/\∀i (h:i<xs.length),bW S W (vs i) xs[i]
section
variable{S S':Nat->Prop}{W W':j_}{v:m_}{xs:List En}
theorem aS.ae(h:aS S W v xs)(D:∀b,S b->S' b/\W'.heap[b]?=W.heap[b]?):aS S' W' v xs:=by
 obtain⟨A,c,e,h1,h2,vs,J,K⟩:=h;refine⟨A,c,e,h1,h2,vs,λh0=>?_,λi hi=>(K i hi).ae D⟩;obtain⟨b,off,e,I,G⟩:=J h0;exact⟨b,off,e,(D b I).1,λi hi j hj=>by rw[D_ (w:=W) (a:=⟨b,_,b_⟩) (D b I).2];exact G i hi j hj⟩
theorem aS.fl(h:aS (·<W.heap.size) W v xs)(j:n_ W W W'):aS (·<W'.heap.size) W' v xs:=
 h.ae λg D=>⟨Kc D j.size,j.block g D⟩
theorem aS.form(h:aS S W v xs):∃A c,v=a_ A xs.length c/\xs.length<=c/\c<=JT:=by
 obtain⟨A,c,e,h1,h2,_⟩:=h;exact⟨A,c,e,h1,h2⟩
theorem aS.arg{A:Option Addr}{n c:Nat}(h:aS S W (a_ A n c) xs){i:Nat}(hi:i<xs.length):
  ∃b off D G,A=c_ ⟨b,off,b_⟩/\S b/\xs[i].uri.size<=9223372036854775807/\bA S W (a_ D xs[i].aI.length G) xs[i].aI/\
   W.cell? ⟨b,off+i*3,b_⟩=c_ (g_ xs[i].uri)/\W.cell? ⟨b,off+i*3+1,b_⟩=c_ (e_ d_ xs[i].bu)/\W.cell? ⟨b,off+i*3+2,b_⟩=c_ (a_ D xs[i].aI.length G):=by
 obtain⟨Z,c0,e,h1,h2,vs,M,O⟩:=h;cases e;obtain⟨b,off,e,V,j⟩:=M O_;obtain⟨D,G,X,hn,Y⟩:=O i hi;have I:=j i hi 0 O_;have J:=j i hi 1 O_;have K:=j i hi 2 O_;rw[X]at I J K;exact⟨b,off,D,G,e,V,hn,Y,I,J,K⟩
theorem aS.nil(S:Nat->Prop)(W:j_)(A:Option Addr)(c:Nat)(hc:c<=JT):aS S W (a_ A 0 c) []:=
 ⟨A,c,rfl,Km _,hc,λ_=>u_ o_,λh=>absurd h (by simp),λi h=>absurd h (by simp)⟩
end
variable{W:j_}{b R:List UInt8}{v0 v1 v2:m_}{t:TypeId}{r:Nat}{U s:ByteArray}
theorem aR{b:Nat}(h:W.heap[b]?=c_ (f_ #[v0,v1,v2] t (0,0))):
  (W.cell? ⟨b,0,b_⟩=c_ v0/\W.cell? ⟨b,1,b_⟩=c_ v1/\W.cell? ⟨b,2,b_⟩=c_ v2):=by
 simp[World.cell?,h]
theorem au{b:Nat}(h:W.heap[b]?=c_ (f_ #[v0,v1,v2] t (0,0))):
  (W.frozen? ⟨b,0,b_⟩=o_/\W.frozen? ⟨b,1,b_⟩=o_/\W.frozen? ⟨b,2,b_⟩=o_):=by
 simp[World.frozen?,h]
theorem DU{u0 u1 u2:m_}(v0 v1 v2:m_)(h:W.heap[r]?=c_ (f_ #[u0,u1,u2] t (0,0))):
  (((W.setCell ⟨r,0,b_⟩ v0).setCell ⟨r,1,b_⟩ v1).setCell ⟨r,2,b_⟩ v2).heap[r]?=c_ (f_ #[v0,v1,v2] t (0,0)):=by
 have h1:=ai h 0 v0;have h2:=ai h1 1 v1;have j:=ai h2 2 v2;simpa using j
theorem Dr{F:Nat->Prop}{a:j_}(h:Kept F a W)(hr:F r\/a.heap.size<=r)(v0 v1 v2:m_):Kept F a (((W.setCell ⟨r,0,b_⟩ v0).setCell ⟨r,1,b_⟩ v1).setCell ⟨r,2,b_⟩ v2):=
 ((h.setCell (p:=⟨r,0,b_⟩) hr _).setCell (p:=⟨r,1,b_⟩) hr _).setCell (p:=⟨r,2,b_⟩) hr _
open Go.RowKit Go.Lib Go.Vfs Go.Par Go.Typ Go.Proofs.YtaalbcfpacpgfaaGreat
def dy(s:ByteArray):Bool:=decide (1<=s.size/\s.size<=64)
def nJ(n:Int):Bool:=decide (0<=n/\n<1073741824)
def gF(e:En):Bool:=dy e.uri&&(nJ e.bu&&aM e.aI)
def aN(e:En):List UInt8:=[1,e.uri.size.toUInt8]++(e.uri.data.toList++(eK e.bu.toNat++et e.aI))
def ed(s:ByteArray):List UInt8:=[2,s.size.toUInt8]++s.data.toList
theorem eP{e:En}(h:gF e=v_):1<=e.uri.size/\e.uri.size<=64:=by
 unfold gF dy at h;simp at h;exact h.1
theorem E7{e:En}(h:gF e=v_):0<=e.bu/\e.bu<1073741824:=by
 unfold gF nJ at h;simp at h;exact h.2.1
theorem ia{e:En}(h:gF e=v_):aM e.aI=true:=by
 unfold gF at h;simp at h;exact h.2.2
theorem GD{e:En}(h1:1<=e.uri.size/\e.uri.size<=64)(h2:0<=e.bu/\e.bu<1073741824)(j:aM e.aI=v_):gF e=true:=by
 unfold gF dy nJ;simp[h1,h2,j]
theorem eX(s:ByteArray):s.data.toList.length=s.size:=by rw[Ko];rfl
theorem ES{x:Ex}(h1:x.name.size<=255)(h2:cJ x.ty=v_)(j:bG x.ty=v_):(Bo x).length<=100000:=by
 have hp:=(cU.1 h2).1;have hw:=lK x.ty j;have hn:=eX x.name;unfold Bo;simp only[p_,Kt,hn];omega
theorem vQ:∀{xs:List Ex},(∀x∈xs,(Bo x).length<=100000)->(fP xs).length<=100000*xs.length
 |[],_=>by simp[fP]
 |x::xs,h=>by
  have h1:=h x (by simp);have h2:=vQ (xs:=xs) λy j=>h y (by simp[j])
  have e:fP (x::xs)=Bo x++fP xs:=by have:=lu (xs:=x::xs) (k:=0) (by simp);simpa using this
  rw[e,p_,Jz];omega
theorem qS{xs:List Ex}(h:aM xs=v_):(et xs).length<=100000002:=by
 have h1:=eD h;have h2:=vQ (xs:=xs) λx hx=>by
  obtain⟨a,b,c⟩:=fp h x hx;exact ES a b c
 unfold et;simp only[p_,Jz,JP];omega
def gX(U:ByteArray)(a:Nat)(R:List UInt8):Option (En×Bool):=
 if a=2 then(if R.length=0 then c_ (⟨U,0,[]⟩,o_)else b_)else
 if a=1 then(if R.length<4 then b_ else
  match fE (R.drop 4)with
  |none=>b_
  |some xs=>if 1073741824<=cI (R.take 4)then b_ else c_ (⟨U,(cI (R.take 4):Int),xs⟩,v_))else b_
def de(b:List UInt8):Option (En×Bool):=
 if b.length<2\/b.length - 2<(b.getD 1 0).toNat then b_ else
 if¬(1<=(b.getD 1 0).toNat/\(b.getD 1 0).toNat<=64)then b_ else
 gX ⟨((b.drop 2).take (b.getD 1 0).toNat).toArray⟩ (b.getD 0 0).toNat (b.drop (2+(b.getD 1 0).toNat))
theorem tH{a:Nat}(h2:¬a=2)(h1:¬a=1):gX U a R=none:=by unfold gX;rw[I_ h2,I_ h1]
theorem pN(h:R.length<4):gX U 1 R=none:=by unfold gX;rw[I_ (by decide),G_ rfl,G_ h]
theorem tG(h:¬R.length<4)(j:fE (R.drop 4)=b_):gX U 1 R=none:=by unfold gX;rw[I_ (by decide),G_ rfl,I_ h,j]
theorem tF(h:¬R.length<4)(j:1073741824<=cI (R.take 4)):gX U 1 R=none:=by
 unfold gX;rw[I_ (by decide),G_ rfl,I_ h];cases fE (R.drop 4)with
 |none=>rfl
 |some xs=>simp only;rw[G_ j]
theorem xJ{xs:List Ex}(h:¬R.length<4)(j:fE (R.drop 4)=c_ xs)(D:¬1073741824<=cI (R.take 4)):gX U 1 R=c_ (⟨U,(cI (R.take 4):Int),xs⟩,v_):=by
 unfold gX;rw[I_ (by decide),G_ rfl,I_ h,j];simp only;rw[I_ D]
theorem me(s:ByteArray):(⟨s.data.toList.toArray⟩:ByteArray)=s:=by cases s;simp
theorem r8{n:Nat}(h:n<256):n.toUInt8.toNat=n:=by
 show(UInt8.ofNat n).toNat=n;rw[K8];omega
theorem BO{e:En}(h:gF e=v_):de (aN e)=c_ (e,v_):=by
 obtain⟨u1,u2⟩:=eP h;obtain⟨v1,v2⟩:=E7 h;have I:=ia h;have hu:=eX e.uri;have j:(eK e.bu.toNat).length=4:=rfl;have J:(aN e).getD 0 0=1:=rfl;have K:((aN e).getD 1 0).toNat=e.uri.size:=r8 O_;have D:(aN e).drop 2=e.uri.data.toList++(eK e.bu.toNat++et e.aI):=rfl;have M:(aN e).drop (2+e.uri.size)=eK e.bu.toNat++et e.aI:=by
  rw[<-LM,D,List.drop_left' hu]
 have O:(aN e).length=2+(e.uri.size+(4+(et e.aI).length)):=by
  unfold aN;simp only[p_,hu,j];rfl
 unfold de gX;rw[J,K,D,M];rw[I_ O_,I_ O_,I_ (by decide),G_ (by decide),I_ (by simp only[p_,j];omega)];rw[List.drop_left' j,List.take_left' j,zF _ O_,List.take_left' hu];have G:=vH I [];rw[La,G_ rfl]at G;rw[G];simp only;rw[I_ O_,me];simp only[Lx,Mk,and_true];exact En.ext' rfl (by show((e.bu.toNat:Nat):Int)=e.bu;omega) rfl
theorem BP(h1:1<=s.size)(h2:s.size<=64):de (ed s)=c_ (⟨s,0,[]⟩,o_):=by
 have hu:=eX s;have D:(ed s).getD 0 0=2:=rfl;have G:((ed s).getD 1 0).toNat=s.size:=r8 O_;have j:(ed s).drop 2=s.data.toList:=rfl;have I:(ed s).drop (2+s.size)=[]:=by
  rw[<-LM,j,List.drop_eq_nil_of_le O_]
 have J:(ed s).length=2+s.size:=by
  unfold ed;simp only[p_,hu];rfl
 unfold de gX;rw[D,G,j,I];rw[I_ O_,I_ O_,G_ (by decide),G_ (by rfl),Kq O_,me]
theorem wS{e:En}{t:Bool}(h:de b=c_ (e,t)):(1<=e.uri.size/\e.uri.size<=64)/\(t=v_->gF e=v_):=by
 unfold de gX at h;split at h
 ·cases h
 rename_i D
 split at h
 ·cases h
 rename_i G
 have j:((⟨((b.drop 2).take (b.getD 1 0).toNat).toArray⟩:ByteArray)).size=(b.getD 1 0).toNat:=by
  show((b.drop 2).take (b.getD 1 0).toNat).toArray.size=_;simp only[KB,JN,Kr];omega
 split at h
 ·split at h
  ·simp only[Lx,Mk]at h
   obtain⟨rfl,rfl⟩:=h;exact⟨by simp only[j];omega,λh=>by cases h⟩
  cases h
 split at h
 ·split at h
  ·cases h
  split at h
  ·cases h
  rename_i xs hx
  split at h
  ·cases h
  rename_i I
  simp only[Lx,Mk]at h;obtain⟨rfl,rfl⟩:=h;exact⟨by simp only[j];omega,λ_=>GD (by simp only[j];omega) (by simp only;omega) (zP hx).1⟩
 cases h
def cL(es:List En)(b:List UInt8):Option (List En):=match de b with
 |none=>b_
 |some (e,v_)=>c_ (aq aB e es)
 |some (e,o_)=>c_ (an aB (aB e) es)
def replay:List En->List (List UInt8)->Option (List En)
 |es,[]=>c_ es
 |es,b::bs=>match cL es b with|none=>b_|some es'=>replay es' bs
theorem lU(bs cs:List (List UInt8)):∀es:List En,replay es (bs++cs)=match replay es bs with|none=>b_|some j=>replay j cs:=by
 induction bs with
 |nil=>intro es;rfl
 |cons b bs D=>
  intro es;rw[Ka,replay,replay];cases cL es b with
  |none=>rfl
  |some j=>exact D j
theorem pB{es j:List En}{bs:List (List UInt8)}(h:replay es bs=c_ j):replay es (bs++[b])=cL j b:=by
 rw[lU,h];simp only[replay];cases cL j b<;>rfl
structure Good(es:List En):Prop where
 rising:cQ aB es
 ok:∀e∈es,gF e=v_
theorem Good.nil:Good []:=⟨List.Pairwise.nil,by simp⟩
theorem Good.step{es j:List En}(h:Good es)(hs:cL es b=c_ j):Good j:=by
 unfold cL at hs;split at hs
 ·cases hs
 ·rename_i e he
  cases hs;exact⟨h.rising.aq,λx hx=>by
   rcases cP.1 hx with rfl|hx
   ·exact(wS he).2 rfl
   exact h.ok x hx.1⟩
 rename_i e he
 cases hs;exact⟨h.rising.an _,λx hx=>h.ok x (cq.1 hx).1⟩
theorem oF(es:List En){e:En}(h:gF e=v_):cL es (aN e)=c_ (aq aB e es):=by unfold cL;rw[BO h]
theorem tC(es:List En)(h1:1<=s.size)(h2:s.size<=64):cL es (ed s)=c_ (an aB s.data.toList es):=by unfold cL;rw[BP h1 h2];rfl
theorem tu{e:En}:∀{es:List En},(∀x∈es,Kk (aB x) (aB e)=v_)->dm aB e es=es++[e]
 |[],_=>rfl
 |x::es,h=>by
  unfold dm;have hx:=h x (by simp);rw[I_ (by intro j;have:=fC hx;rw[j]at this;cases this),tu (λy D=>h y (by simp[D]))];rfl
theorem rO:∀(es pre:List En),Good (pre++es)->replay pre (es.map aN)=c_ (pre++es)
 |[],pre,h=>by simp[replay]
 |e::es,pre,h=>by
  rw[Ks,replay,oF pre (h.ok e (by simp))];have hp:=List.pairwise_append.1 h.rising;have j:∀x∈pre,Kk (aB x) (aB e)=true:=λx hx=>hp.2.2 x hx e (by simp)
  have G:an aB (aB e) pre=pre:=by
   unfold an;rw[List.filter_eq_self];intro x hx;have:=j x hx;have D:aB x≠aB e:=λh=>by rw[h,before_irrefl]at this;cases this
   simpa using D
  have:aq aB e pre=pre++[e]:=by unfold aq;rw[G];exact tu j
  rw[this];have h2:=rO es (pre++[e]) (by rw[JU];exact h);simp only;rw[h2,JU];rfl
end Go.Ix
namespace Go.Proofs.YtaalbcfpacpgfaaGreat
open Go.RowKit Go.Lib Go.Vfs Go.Par Go.Typ Go.Shelf Go.Ix
variable{w w':j_}
theorem nt(s:ByteArray)(hs:s.size<=9223372036854775807)(w:j_):H_ h_ 74 #[g_ s] w λe w'=>e=k_ (u_ (dy s))/\w'=w:=by
 by_cases h1:1<=s.size
 ·by_cases h2:s.size<=64
  ·have hr:dy s=true:=by unfold dy;simp[h1,h2]
   rw[hr];have j:(1:Int)<=(s.size:Int):=by omega
   have D:(s.size:Int)<=64:=by omega
   clear hr;go_enter Tryz.func74,Tryz.ntmps74;go_wp2;go_ret;exact⟨rfl,rfl⟩
  have hr:dy s=false:=by unfold dy;simp[h1,h2]
  rw[hr];have j:(1:Int)<=(s.size:Int):=by omega
  have D:¬(s.size:Int)<=64:=by omega
  clear hr;go_enter Tryz.func74,Tryz.ntmps74;go_wp2;go_ret;exact⟨rfl,rfl⟩
 have hr:dy s=false:=by unfold dy;simp[h1]
 rw[hr];have j:¬(1:Int)<=(s.size:Int):=by omega
 clear hr;go_enter Tryz.func74,Tryz.ntmps74;go_wp2;go_ret;exact⟨rfl,rfl⟩
theorem jQ(a:UInt8)(n:Nat)(hn:n<=255):#[e_ KD (a.toNat:Int),e_ KD (n:Int)]=(l_ [a,n.toUInt8]).toArray:=by
 have:(n.toUInt8).toNat=n:=r8 O_;simp[l_,this]
theorem wV(s:ByteArray)(h2:s.size<=64)(w:j_):H_ h_ 67 #[g_ s] w λe w'=>∃v,e=k_ v/\Par.Own w' w 5 v (l_ (ed s))/\n_ w w w':=by
 obtain⟨Y,G⟩:=N_ (w.alloc (f_ #[e_ KD 2,e_ KD (s.size:Int)] 5));have I:n_ w w Y:=by rw[G];exact B_.alloc L_ _
 have j:Par.Own Y w 5 (a_ (c_ ⟨w,0,b_⟩) 2 2) (l_ [2,s.size.toUInt8]):=by
  rw[G];have h:=Par.Own.new w w 5 #[e_ KD 2,e_ KD (s.size:Int)] (l_ [2,s.size.toUInt8]) (jQ 2 s.size O_) L_ (by simp[l_,JT]);simpa[l_]using h
 have M:=Z_ I;have J:=I.size;have ad:KD.wrap (s.size:Int)=(s.size:Int):=by unfold Lg;simp[KQ,KZ];omega
 obtain⟨i0,hi,O,V,K⟩:=mJ;clear I;go_enter Tryz.func67,Tryz.ntmps67;go_wp2_with (at_builtin;rw[<-G];refine fM _ rfl _ _ 24 9 rfl w 5 i0 J9 KH hi O V K _ _ rfl j s rfl (by simp[l_];omega) J ?_;intro v2 w2 D X Z);rw[fK,<-byteCells_append]at D;go_ret;exact⟨_,rfl,D,M.o.grown X J (λk e=>(j.lt k e).1)⟩
def gm(E:En)(w:j_)(e:Ending)(w':j_):Prop:=
 ∃v',e=k_ (J_ #[v',e_ d_ (if gF E then 0 else 200)])/\n_ w.heap.size w w'/\(gF E=v_->Par.Own w' w.heap.size 5 v' (l_ (aN E)))/\(gF E=o_->v'=a_ b_ 0 0)
theorem gH{E:En}(h:gF E=o_)(j:n_ w w w'):gm E w (k_ (J_ #[a_ b_ 0 0,e_ d_ 200])) w':=
 ⟨_,by rw[h];rfl,j,λh2=>(by rw[h]at h2;cases h2),λ_=>rfl⟩
theorem j7(E:En)(v:m_)(w:j_)(hX:bW (·<w.heap.size) w v E):H_ h_ 38 #[v] w (gm E w):=by
 obtain⟨A,c,rfl,hn,hX⟩:=hX;obtain⟨P,hP⟩:=N_ (gm E w);have V:=Z_ hP;rw[<-hP];clear hP;obtain⟨A0,c0,e0,hc,hm⟩:=hX.form;injection e0 with e1 _ e2;subst e1 e2;obtain⟨W1,K⟩:=N_ (w.alloc (f_ #[g_ E.uri,e_ d_ E.bu,a_ A E.aI.length c] 55));have bf:n_ w w W1:=by rw[K];exact B_.alloc L_ _
 have bg:W1.heap.size=w.heap.size+1:=by rw[K];simp
 have bj:W1.heap[w.heap.size]?=c_ (f_ #[g_ E.uri,e_ d_ E.bu,a_ A E.aI.length c] 55 (0,0)):=by
  rw[K];exact r_ _ _
 have cf:=Z_ (nt E.uri hn W1);have cg:=Z_ (yo E.aI _ W1 (hX.fl bf));have X:=Z_ bf;have ch:=Z_ bg;have bp:=Z_ bj;obtain⟨y0,y1,y2⟩:=aR bj;rw[K]at y0 y1 y2;clear hX hm bf bg bj;unfold eV;go_enter Tryz.func38,Tryz.ntmps38;go_wp2_with fail;rw[<-K]at y0 y1 y2⊢;clear K;refine cf.o.mono ?_;rintro e w2 ⟨rfl,rfl⟩;by_cases hu:dy E.uri=v_
 rotate_left
 ·have bk:dy E.uri=false:=by simpa using hu
  have HE:x_ (P (k_ (J_ #[a_ b_ 0 0,e_ d_ 200])) w2):=Z_ (by
   rw[V.o];exact gH (by unfold gF;rw[bk];rfl) X.o)
  rw[bk];clear hu bk;go_wp2;exact HE.o
 by_cases ck:E.bu<0
 ·have HE:x_ (P (k_ (J_ #[a_ b_ 0 0,e_ d_ 200])) w2):=Z_ (by
   rw[V.o];exact gH (by unfold gF nJ;rw[show decide (0<=E.bu/\E.bu<1073741824)=o_ by simp;omega];simp) X.o)
  rw[hu];clear hu;go_wp2;exact HE.o
 by_cases cl:1073741824<=E.bu
 ·have HE:x_ (P (k_ (J_ #[a_ b_ 0 0,e_ d_ 200])) w2):=Z_ (by
   rw[V.o];exact gH (by unfold gF nJ;rw[show decide (0<=E.bu/\E.bu<1073741824)=o_ by simp;omega];simp) X.o)
  rw[hu];clear hu;go_wp2;exact HE.o
 have HU:=Z_ hu;rw[hu];clear hu;go_wp2_with fail;refine cg.o.mono ?_;rintro e w3 ⟨v3,rfl,M,O,bt⟩;have cE:=M.size;have bg:=ch.o;by_cases hr:aM E.aI=v_
 rotate_left
 ·have bm:aM E.aI=false:=by simpa using hr
  have HE:x_ (P (k_ (J_ #[a_ b_ 0 0,e_ d_ 200])) w3):=Z_ (by
   rw[V.o];exact gH (by unfold gF;rw[bm];simp) (X.o.trans (M.mono O_)))
  rw[bm];clear hr bm O bt M;go_wp2;exact HE.o
 have bn:gF E=true:=by unfold gF nJ;rw[HU.o,hr];simp;omega
 have bo:=Z_ bn;have cm:E.uri.size<=64:=(eP bn).2;have O:=O hr;rw[hr];have ak:x_ (n_ w w w3):=Z_ (X.o.trans (M.mono O_));obtain⟨A3,c3,rfl⟩:=O.form;obtain⟨W4,Y⟩:=N_ (w3.alloc (f_ #[e_ KD 1,e_ KD (E.uri.size:Int)] 5));have av:n_ w3 w3 W4:=by rw[Y];exact B_.alloc L_ _
 have I:Par.Own W4 w3 5 (a_ (c_ ⟨w3,0,b_⟩) 2 2) (l_ [1,E.uri.size.toUInt8]):=by
  rw[Y];have h:=Par.Own.new w3 w3 5 #[e_ KD 1,e_ KD (E.uri.size:Int)] (l_ [1,E.uri.size.toUInt8]) (jQ 1 E.uri.size O_) L_ (by simp[l_,JT]);simpa[l_]using h
 have cp:KD.wrap (E.uri.size:Int)=(E.uri.size:Int):=by unfold Lg;simp[KQ,KZ];omega
 obtain⟨i0,hi,bx,bB,bN⟩:=mJ;have cr:=Z_ O;have ct:=Z_ av;have bO:=av.size;have Z:=(M.block _ O_).trans bp.o;have ad:=Z_ ((av.block _ O_).trans Z);have z:=aR ad.o;rw[Y]at z;obtain⟨z0,z1,z2⟩:=z;clear y0 y1 y2;obtain⟨y0,y1,y2⟩:=aR Z;clear hr bn M bt Z O av;go_upto_region 7 with(at_builtin;rw[<-Y];refine fM _ rfl _ _ 24 9 rfl w3 5 i0 J9 KH hi bx bB bN _ _ rfl I E.uri rfl (by simp[l_];omega) bO ?_);intro v5 w5 j a1 bR;rw[fK,<-byteCells_append]at j;obtain⟨A5,c5,rfl⟩:=j.form;try rw[<-Y]at a1
 have ba:=(a1.block w (ao ad.o) (λe=>by simp[Value.ownBlock]at e;have:=ao bp.o;have:=ak.o.size;omega)).trans ad.o;have b0:x_ (n_ w3 w3 w5):=Z_ (ct.o.grown a1 bO (λk e=>(I.lt k e).1));have cu:=b0.o.size;obtain⟨G,b1⟩:∃G:Nat,E.bu=(G:Int):=⟨E.bu.toNat,by omega⟩;have cv:=Z_ b1;have cF:G<1073741824:=by omega
 have bb:bw (w5.alloc (f_ #[e_ KD ((G:Int)/16777216),e_ KD ((G:Int)/65536%256),e_ KD ((G:Int)/256%256),e_ KD ((G:Int)%256)] 5)) (w5+1) (a_ (c_ ⟨w5,0,b_⟩) 4 4) (l_ (eK G)):=by
  have h:=bw.new w5 5 #[e_ KD ((G:Int)/16777216),e_ KD ((G:Int)/65536%256),e_ KD ((G:Int)/256%256),e_ KD ((G:Int)%256)] (l_ (eK G)) (by
   rw[ll G O_,show(G:Int)/16777216%256=(G:Int)/16777216 by omega]) (by rw[t_,bz];simp[JT])
  rw[t_,bz]at h;exact h
 have bd:∀o,Par.Own (w5.alloc o) w3 5 (a_ A5 (l_ ([1,E.uri.size.toUInt8]++E.uri.data.toList)).length c5) (l_ ([1,E.uri.size.toUInt8]++E.uri.data.toList)):=λo=>j.alloc o
 have hu:=eX E.uri;have cx:=Z_ cm;have cB:=Z_ j;obtain⟨x0,x1,x2⟩:=aR ba;rw[b1]at x1;clear y0 y1 y2 z0 z1 z2 j ba cp hi bx bB bN I a1 bR ck cl;go_upto_region 8 with(at_builtin;refine aE _ rfl _ _ _ rfl w3 5 _ fD _ _ rfl (bd _) _ _ _ rfl bb (aZ _) ?c1 ?c2 ?_)
 case c1=>simp[l_,eK];omega
 case c2=>simp;omega
 intro v6 w6 D b2 b3;rw[<-byteCells_append]at D;obtain⟨A6,c6,rfl⟩:=D.form;have b5:n_ w3 w5 w6:=bK B_ cu _ b2 (λg e=>(cB.o.lt g e).1);have a2:n_ w3 w3 w6:=b0.o.trans b5;have b6:=(cr.o.below a2).dH;have HB6:=Z_ a2;have cb:=a2.size;have hlen:(l_ (([1,E.uri.size.toUInt8]++E.uri.data.toList)++eK G)).length+(l_ (et E.aI)).length<=2147483648:=by
  have:=qS (ia bo.o);have:=cx.o;simp only[t_,p_,bz,Jz,JP,hu];omega
 clear a2 bb b2 b3 x0 x1 x2 bd;go_wp2_with (at_builtin;refine aE _ rfl _ _ _ rfl w3 5 _ fD _ _ rfl D _ _ _ rfl b6 (aZ _) hlen cb ?_;intro v7 w7 J cc cd);rw[<-byteCells_append]at J;have HE:x_ (P (k_ (J_ #[v7,e_ d_ 0])) w7):=Z_ (by
  rw[V.o];refine⟨v7,by rw[bo.o];rfl,ak.o.trans ((HB6.o.grown cc cb (λg e=>(D.lt g e).1)).mono ak.o.size),λ_=>?_,λh=>(by rw[bo.o]at h;cases h)⟩;have:aN E=(([1,E.uri.size.toUInt8]++E.uri.data.toList)++eK G)++et E.aI:=by
   unfold aN;rw[cv.o,Lh];simp only[JU]
  rw[this];exact J.base ak.o.size)
 clear J cc cd;go_wp2;exact HE.o
theorem je(E:En)(hp:∀x∈E.aI,eU x.ty)(v:m_)(w:j_)(hX:bW (·<w.heap.size) w v E)(hl:E.aI.length<=1000000):
  H_ h_ 61 #[v] w λe w'=>∃A c,e=k_ (eV E A c)/\iG (λg=>w.heap.size<=g/\g<w'.heap.size) w' (a_ A E.aI.length c) E.aI/\n_ w w w':=by
 obtain⟨A,c,rfl,hn,hX⟩:=hX;obtain⟨s,bu,xs⟩:=E;simp only at*;obtain⟨A0,c0,e0,hc,hm⟩:=hX.form;injection e0 with e1 _ e2;subst e1 e2;have HX:=Z_ hX;have HP:=Z_ hp;obtain⟨D,G⟩:=N_ ((w.alloc (f_ #[g_ s,e_ d_ bu,a_ A xs.length c] 55)).alloc (f_ #[g_ ⟨#[]⟩,e_ d_ 0,a_ b_ 0 0] 55));have bo:n_ w w D:=by rw[G];exact(B_.alloc L_ _).alloc (by simp) _
 have a2:D.heap.size=w.heap.size+2:=by rw[G];simp
 have j:D.heap[w.heap.size]?=c_ (f_ #[g_ s,e_ d_ bu,a_ A xs.length c] 55 (0,0)):=by
  rw[G,z_ _ _ _ (by simp)];exact r_ _ _
 have I:D.heap[w.heap.size+1]?=c_ (f_ #[g_ ⟨#[]⟩,e_ d_ 0,a_ b_ 0 0] 55 (0,0)):=by
  rw[G];have:=r_ (w.alloc (f_ #[g_ s,e_ d_ bu,a_ A xs.length c] 55)) (f_ #[g_ ⟨#[]⟩,e_ d_ 0,a_ b_ 0 0] 55);simpa using this
 have bp:=Z_ bo;have bt:=Z_ a2;have cb:=Z_ j;have cc:=Z_ I;obtain⟨y0,y1,y2⟩:=aR j;rw[G]at y0 y1 y2;clear hX hm hp bo a2 j I;unfold eV;go_enter Tryz.func61,Tryz.ntmps61;go_wp2;rw[<-G];clear y0 y1 y2 G
 go_loopw [3,9] (λsv iv W=>∃(k:Nat) (us:List m_),k<=xs.length/\iv=e_ d_ k/\x_ (az 63 5 gB D D W (xs.take k) sv us)/\x_ (n_ D D W)) (λ_ iv _=>xs.length - (A_ iv).toNat)
 case atStart=>exact⟨0,[],by omega,rfl,Z_ (az.nil D),Z_ B_⟩
 obtain⟨k,us,hk,rfl,HR,HB⟩:=hrel;by_cases ba:k<xs.length
 ·have cF:=HB.o.size
  have cx:=bt.o;obtain⟨b,off,A',c',rfl,hb,bx,bB,x0,x1,x2,x3,x4⟩:=(HX.o.ae (S':=(·<w.heap.size)) λg hg=>⟨hg,(HB.o.block g O_).trans (bp.o.block g hg)⟩).arg ba;have ht:=bB.sub (S':=(·<wr.heap.size)) λg (hg:g<w)=>by omega
  clear bB;obtain⟨W2,O⟩:=N_ (wr.alloc (f_ #[g_ xs[k].name,e_ d_ xs[k].ty.kind,e_ d_ xs[k].ty.num,g_ xs[k].ty.name,a_ A' xs[k].ty.args.length c'] 63));have V:n_ wr wr W2:=by rw[O];exact B_.alloc L_ _
  have bb:W2.heap.size=wr.heap.size+1:=by rw[O];simp
  have bd:W2.heap[wr.heap.size]?=c_ (f_ #[g_ xs[k].name,e_ d_ xs[k].ty.kind,e_ d_ xs[k].ty.num,g_ xs[k].ty.name,a_ A' xs[k].ty.args.length c'] 63 (0,0)):=by rw[O];exact r_ _ _
  have hd:n_ W2 W2 W2.drew:=(JG W2 _).drew;have bf:=ub xs[k].ty _ W2.drew ((ht.fl V).fl hd) (HP.o xs[k] (JB ba));have cd:x_ (xs.take (k+1)=xs.take k++[xs[k]]):=Z_ (by rw[y_ ba]);have bN:(xs.take k).length=k:=by rw[JN];omega
  have bO:=Z_ bN;have cf:=Z_ bx;have cg:=Z_ (az.below (R:=gB) gB.ae (az.below (R:=gB) gB.ae HR.o V) hd);have cB:=Z_ (az.below (R:=gB) gB.ae HR.o V);have bR:x_ (n_ D D W2.drew):=Z_ ((HB.o.trans (V.mono HB.o.size)).trans (hd.mono O_));have ch:D.heap.size<=W2.heap.size:=bR.o.size;have ck:=Z_ bd;have ak:x_ (∀W':j_,W'.heap[wr.heap.size]?=W2.heap[wr.heap.size]?->W'.cell? ⟨wr,0,b_⟩=c_ (g_ xs[k].name)/\W'.cell? ⟨wr,1,b_⟩=c_ (e_ d_ xs[k].ty.kind)/\W'.cell? ⟨wr,2,b_⟩=c_ (e_ d_ xs[k].ty.num)/\W'.cell? ⟨wr,3,b_⟩=c_ (g_ xs[k].ty.name)/\W'.cell? ⟨wr,4,b_⟩=c_ (a_ A' xs[k].ty.args.length c')):=
   Z_ λW' h=>nV (h.trans ck.o)
  have a1:=Z_ HR.o.lt;have cl:x_ (n_ W2 W2 W2.drew):=Z_ hd;have Y:=Z_ (ak.o W2.drew rfl);have Z:=Z_ bb;have z:=nV bd;rw[O]at z;obtain⟨z0,z1,z2,z3,z4⟩:=z;clear ht bN hd bx bd V bb;generalize xs[k]=X at*;unfold cn at bf;have cm:=Z_ bf;clear bf;go_wp2_with fail;rw[<-O];clear O z0 z1 z2 z3 z4;refine KE (S:=(λJ:j_=>J.cell? ⟨wr,0,b_⟩=c_ (g_ X.name)/\J.cell? ⟨wr,1,b_⟩=c_ (e_ d_ X.ty.kind)/\J.cell? ⟨wr,2,b_⟩=c_ (e_ d_ X.ty.num)/\J.cell? ⟨wr,3,b_⟩=c_ (g_ X.ty.name)/\J.cell? ⟨wr,4,b_⟩=c_ (a_ A' X.ty.args.length c'))) K_ ?_;refine fy 0 13 u3 Y.o ?_;refine fy 1 14 (.pointer (c_ ⟨wr,0,b_⟩)) Y.o ?_;refine fy 2 15 (g_ X.name) Y.o ?_;refine fy 3 16 (.pointer (c_ ⟨wr,1,b_⟩)) Y.o ?_;refine fy 4 17 (JI #[e_ d_ X.ty.kind,e_ d_ X.ty.num,g_ X.ty.name,a_ A' X.ty.args.length c']) Y.o ?_;refine ag 5 λK hK=>?_
  go_simp;refine cm.o.mono ?_;rintro e J ⟨A2,c2,rfl,hu,av⟩;have bg:=az.below (R:=gB) gB.ae cg.o av;have cp:=Z_ bg;have HU:x_ (gB (λg=>W2.heap.size<=g/\g<J.heap.size) J (zW X A2 c2) X):=Z_ ⟨A2,c2,rfl,cf.o,hu⟩;have M:=bg.own;rw[bO.o]at M;obtain⟨cr,b0⟩:=N_ (us.flatMap cX);rw[<-b0]at M;have bb:W2.heap.size<=J.heap.size:=av.size;have b1:x_ (n_ D D J):=Z_ (bR.o.trans (av.mono ch));have ad:n_ W2 W2 J:=cl.o.trans av;have b2:=Z_ (ak.o J (ad.block _ (by have:=Z.o;omega)));clear bg hu;refine kk hK b2.o ?_;refine fy 6 19 (JI #[g_ X.name,e_ d_ X.ty.kind,e_ d_ X.ty.num,g_ X.ty.name,a_ A2 X.ty.args.length c2]) b2.o ?_;refine ag 7 λK hK=>?_
  go_simp;have ct:=Z_ (ak.o (J.alloc (f_ #[g_ X.name,e_ d_ X.ty.kind,e_ d_ X.ty.num,g_ X.ty.name,a_ A2 X.ty.args.length c2] 63)) ((ad.alloc O_ _).block _ (by have:=Z.o;omega)));refine kk hK ct.o ?_;refine ag 8 λK hK=>?_
  refine ig _ (.tmp 13) (.tmp 20) 53 rfl D 63 5 IG _ k cr rfl (Kf M _) ⟨J,0,b_⟩ 1 1 [g_ X.name,e_ d_ X.ty.kind,e_ d_ X.ty.num,g_ X.ty.name,a_ A2 X.ty.args.length c2] rfl rfl (bF _ _ _) (E9 _ _ _ _ _ _ _) O_ (by simp;omega) (λv3 w3 bj bk b3=>?_);have b5:=Z_ (ak.o w3 ((bk.block _ (by have:=Z.o;simp;omega) (λe=>by have:=a1.o _ e.symm;omega)).trans ((ad.alloc O_ _).block _ (by have:=Z.o;omega))));refine kk hK b5.o ?_;refine fy 9 3 v3 b5.o ?_;refine J6 K_ ?_ _;go_wp2;go_roundw
  case rel=>
   refine⟨k+1,us++[zW X A2 c2],by omega,by go_num,Z_ ?_,Z_ ?_⟩
   ·rw[cd.o]
    refine az.next (R:=gB) gB.ae cp.o HU.o (λg hg=>⟨by omega,hg.2,λe=>?_⟩) rfl _ ?_ bk b3
    ·have:=a1.o g e;have:=Z.o;omega
    rw[bO.o,<-b0];exact bj
   exact bK b1.o O_ _ bk (λg e=>(M.lt g e).1)
  simp[A_];omega
 have cu:k=xs.length:=by omega
 have hr:=HR.o;rw[cu,JO]at hr;obtain⟨A2,c2,rfl,c6,c7⟩:=hr.form;have HE:=Z_ hr.Hb;have a2:=bt.o;have c8:=HB.o.size;have j:wr.heap[w.heap.size]?=c_ (f_ #[g_ s,e_ d_ bu,a_ A xs.length c] 55 (0,0)):=(HB.o.block _ O_).trans cb.o;have I:wr.heap[w.heap.size+1]?=c_ (f_ #[g_ ⟨#[]⟩,e_ d_ 0,a_ b_ 0 0] 55 (0,0)):=(HB.o.block _ O_).trans cc.o;have cE:=Z_ j;have b6:=Z_ I;obtain⟨x0,x1,x2⟩:=aR j;obtain⟨q0,q1,q2⟩:=au j;obtain⟨r0,r1,r2⟩:=aR I;obtain⟨s0,s1,s2⟩:=au I;clear hr j I;go_wp2;obtain⟨Wf,bm⟩:=N_ (((((wr.setCell ⟨w,2,b_⟩ (a_ A2 xs.length c2)).setCell ⟨w+1,0,b_⟩ (g_ s)).setCell ⟨w+1,1,b_⟩ (e_ d_ bu)).setCell ⟨w+1,2,b_⟩ (a_ A2 xs.length c2)));have bn:Kept (λg=>g=w.heap.size\/g=w.heap.size+1) wr Wf:=by
  rw[bm];exact Dr ((Kept.refl _ _).setCell (p:=⟨w,2,b_⟩) (.inl (.inl rfl)) _) (.inl (.inr rfl)) _ _ _
 have cv:Wf.heap[w.heap.size+1]?=c_ (f_ #[g_ s,e_ d_ bu,a_ A2 xs.length c2] 55 (0,0)):=by
  rw[bm];refine DU (u0:=g_ ⟨#[]⟩) (u1:=e_ d_ 0) (u2:=a_ b_ 0 0) _ _ _ ?_;rw[JZ _ _ _ _ (by simp)];exact b6.o
 rw[<-bm];obtain⟨f0,f1,f2⟩:=aR cv;have c9:=bn.size;refine C_ (v:=JI #[g_ s,e_ d_ bu,a_ A2 xs.length c2]) (by simp[results,Tryz.results61,go_sem,f0,f1,f2]) rfl ?_;refine⟨A2,c2,rfl,iG.ae HE.o λg hg=>⟨by omega,bn.block g hg.2 O_⟩,?_⟩;exact(bp.o.trans (HB.o.mono O_)).trans (bn.below O_ (λg hg=>by omega))
theorem wy(E:En)(hp:∀x∈E.aI,eU x.ty)(v:m_)(w:j_)(j:bW (·<w.heap.size) w v E)(D:E.aI.length<=1000000):
  H_ h_ 61 #[v] w λe w'=>∃A c,e=k_ (eV E A c)/\bA (λg=>w.heap.size<=g/\g<w'.heap.size) w' (a_ A E.aI.length c) E.aI/\n_ w w w':=
 (je E hp v w j D).mono (by rintro e w' ⟨A,c,rfl,h,G⟩;exact⟨A,c,rfl,iG.at_ h,G⟩)
theorem uE(i x y:Nat)(hi:i<32)(hx:x%2^i=0)(j:y<2^i)(I:x<4294967296):bits .or d_ (x:Int) (y:Int)=((x+y:Nat):Int):=by
 have D:(2:Nat)^i<=2^32:=LO O_ O_;have G:∀n:Int,0<=n->n<2^32->d_.wrap n=n:=λn h0 h1=>by rw[IntKind.wrap_i64];omega
 rw[(bits_nat d_ 32 (by decide) G x y O_ O_).2,nat_join i x y hx j]
theorem Hv(j D G I:Nat)(h0:j<256)(h1:D<256)(h2:G<256)(J:I<256):
  bits .or d_ (bits .or d_ (bits .or d_ ((j:Int)*16777216) ((D:Int)*65536)) ((G:Int)*256)) (I:Int)=((j*16777216+D*65536+G*256+I:Nat):Int):=by
 rw[show(j:Int)*16777216=((j*16777216:Nat):Int) by omega,show(D:Int)*65536=((D*65536:Nat):Int) by omega,show(G:Int)*256=((G*256:Nat):Int) by omega];rw[uE 24 _ _ O_ O_ O_ O_,uE 16 _ _ O_ O_ O_ O_,uE 8 _ _ O_ O_ O_ O_]
theorem iJ(z:Nat)(h:z<256):(z:Int)<=255:=by omega
theorem FO(j D G I:Nat)(h0:j<256)(h1:D<256)(h2:G<256)(J:I<256):j*16777216+D*65536+G*256+I<4294967296:=by omega
theorem FP(l:List UInt8)(h:4<=l.length):cI (l.take 4)=(l.getD 0 0).toNat*16777216+(l.getD 1 0).toNat*65536+(l.getD 2 0).toNat*256+(l.getD 3 0).toNat:=by
 match l,h with
 |a::b::c::d::_,_=>
  simp[cI];omega
def qq(L:List UInt8)(w:j_)(e:Ending)(w':j_):Prop:=
 n_ w.heap.size w w'/\∃(s:ByteArray) (n:Int) (A:Option Addr) (m c:Nat) (there ok:Bool),e=k_ (J_ #[JI #[g_ s,e_ d_ n,a_ A m c],u_ there,u_ ok])/\(de L=b_->ok=o_)/\
  ∀E t,de L=c_ (E,t)->ok=v_/\there=t/\bW (λg=>w.heap.size<=g/\g<w'.heap.size) w' (JI #[g_ s,e_ d_ n,a_ A m c]) E
theorem iV{L:List UInt8}{s:ByteArray}{n:Int}{A:Option Addr}{m c:Nat}{there:Bool}(h:de L=b_)(j:n_ w w w'):qq L w (k_ (J_ #[JI #[g_ s,e_ d_ n,a_ A m c],u_ there,u_ o_])) w':=
 ⟨j,s,n,A,m,c,there,o_,rfl,λ_=>rfl,λE t h2=>by rw[h]at h2;cases h2⟩
theorem ju{W:j_}{r:Nat}{u0 u1 u2:m_}(v0 v1 v2:m_)(h:W.heap[r]?=c_ (f_ #[u0,u1,u2] 55 (0,0)))(G:n_ r w W):
  ∃j,j=(((W.setCell ⟨r,0,b_⟩ v0).setCell ⟨r,1,b_⟩ v1).setCell ⟨r,2,b_⟩ v2)/\j.heap[r]?=c_ (f_ #[v0,v1,v2] 55 (0,0))/\n_ r w j/\Kept (·=r) W j:=by
 have D:=Dr (F:=(·=r)) (Kept.refl _ W) (.inl rfl) v0 v1 v2;exact⟨_,rfl,DU v0 v1 v2 h,G.trans (D.below (by have:=ao h;omega) (λk D=>by omega)),D⟩
theorem yO(L:List UInt8)(v:m_)(w:j_)(cx:bw w w v (l_ L)):H_ h_ 55 #[v] w (qq L w):=by
 obtain⟨P,hP⟩:=N_ (qq L w);have Y:=Z_ hP;rw[<-hP];clear hP;obtain⟨A,c,rfl,hc,hm,ec⟩:=cx.bq;obtain⟨W1,Z⟩:=N_ (w.alloc (f_ #[g_ ⟨#[]⟩,e_ d_ 0,a_ b_ 0 0] 55));have bt:n_ w w W1:=by rw[Z];exact B_.alloc L_ _
 have ad:W1.heap.size=w.heap.size+1:=by rw[Z];simp
 have K:W1.heap[w.heap.size]?=c_ (f_ #[g_ ⟨#[]⟩,e_ d_ 0,a_ b_ 0 0] 55 (0,0)):=by
  rw[Z];exact r_ _ _
 have cf:At W1 w A L.length (λi=>e_ KD (L.getD i 0).toNat):=ec.below bt;have cg:=cx.below bt;have cB:=Z_ bt;have hH:=Z_ ad;have ee:=Z_ K;have eg:=Z_ cf;have en:=Z_ cg;have hF:L.length<=9223372036854775807:=by omega
 clear cx ec bt cf cg;by_cases h2:L.length<2
 ·have g2:(L.length:Int)<2:=by omega
  have bb:x_ (de L=b_):=Z_ (by unfold de;rw[G_ (.inl h2)]);obtain⟨q0,q1,q2⟩:=au K;obtain⟨y0,y1,y2⟩:=aR K;have HY:=Z_ (aR K);rw[Z]at q0 q1 q2 y0 y1 y2;clear K ad;go_enter Tryz.func55,Tryz.ntmps55;go_wp2;rw[<-Z];obtain⟨f0,f1,f2⟩:=HY.o;refine C_ (v:=J_ #[JI #[g_ ⟨#[]⟩,e_ d_ 0,a_ b_ 0 0],u_ o_,u_ o_]) (by simp[results,LP,go_sem,f0,f1,f2]) rfl ?_;rw[Y.o];exact iV bb.o cB.o
 have gz:2<=L.length:=by omega
 obtain⟨b,off,x0,rfl,hb,bd,g0,g1⟩:=eg.o.byte (show 0<L.length by omega);obtain⟨_,_,O,e1,-,bx,bB,cE⟩:=eg.o.byte (show 1<L.length by omega);cases e1;simp only[L5]at bd;have g2:¬(L.length:Int)<2:=by omega
 have gi:1<L.length:=by omega
 by_cases hn:L.length - 2<O
 ·have g3:(L.length:Int) - 2<(O:Int):=by omega
  have bb:x_ (de L=b_):=Z_ (by unfold de;rw[G_ (.inr (by rw[cE.o];exact hn))]);obtain⟨q0,q1,q2⟩:=au K;obtain⟨y0,y1,y2⟩:=aR K;have HY:=Z_ (aR K);rw[Z]at q0 q1 q2 y0 y1 y2 bd bx;clear K ad;go_enter Tryz.func55,Tryz.ntmps55;go_wp2;rw[<-Z];obtain⟨f0,f1,f2⟩:=HY.o;refine C_ (v:=J_ #[JI #[g_ ⟨#[]⟩,e_ d_ 0,a_ b_ 0 0],u_ o_,u_ o_]) (by simp[results,LP,go_sem,f0,f1,f2]) rfl ?_;rw[Y.o];exact iV bb.o cB.o
 have bf:2+O<=L.length:=by omega
 have g3:¬(L.length:Int) - 2<(O:Int):=by omega
 obtain⟨eo,A3,c3,bg,bj⟩:=nE en.o 2 (2+O) O_ bf;obtain⟨A4,c4,ch,ck⟩:=fJ en.o (2+O) bf;rw[Lu]at bg bj;have r3:∀w',(KO 24 (a_ (c_ ⟨b,off,b_⟩) L.length c) (c_ (e_ d_ 2)) (c_ (e_ d_ (2+(O:Int)))) b_).run h_ w'=.ok (a_ A3 O c3) w':=λw'=>by
  have:=oE (c_ ⟨b,off,b_⟩) L.length c 2 (2+O) w' O_ eo;rw[bg]at this;exact this
 have r4:∀w',(KO 24 (a_ (c_ ⟨b,off,b_⟩) L.length c) (c_ (e_ d_ (2+(O:Int)))) b_ b_).run h_ w'=.ok (a_ A4 (L.length - (2+O)) c4) w':=λw'=>by
  have:=eF (c_ ⟨b,off,b_⟩) L.length c (2+O) w' bf;rw[ch]at this;exact this
 have k3:∀W',n_ w W1 W'->(convert 24 9 (a_ A3 O c3)).run h_ W'=.ok (g_ ⟨((L.drop 2).take O).toArray⟩) W':=λW' hb=>lp (bj.below hb)
 obtain⟨U,hU⟩:∃U:ByteArray,U=⟨((L.drop 2).take O).toArray⟩:=⟨_,rfl⟩;have ev:U.size=O:=by
  rw[hU];show((L.drop 2).take O).toArray.size=_;simp only[KB,JN,Kr];omega
 rw[<-hU]at k3;have eC:=k3 W1 B_;obtain⟨M,hM⟩:=N_ (L.length - (2+O));rw[<-hM]at r4;have g4:x_ (∀W,H_ h_ 74 #[g_ U] W λe w'=>e=k_ (u_ (dy U))/\w'=W):=Z_ λW=>nt U O_ W
 obtain⟨W2,a1⟩:=N_ (w.alloc (f_ #[g_ U,e_ d_ 0,a_ b_ 0 0] 55));have cl:W2.heap[w.heap.size]?=c_ (f_ #[g_ U,e_ d_ 0,a_ b_ 0 0] 55 (0,0)):=by rw[a1];exact r_ _ _
 have cF:n_ w w W2:=by rw[a1];exact B_.alloc L_ _
 have bN:∀k,k<w.heap.size->W2.heap[k]?=W1.heap[k]?:=λk hk=>(cF.block k hk).trans (cB.o.block k hk).symm
 have cm:=(D_ (a:=⟨b,off,b_⟩) (bN b hb)).trans bd;have cp:=(D_ (a:=⟨b,off+1,b_⟩) (bN b hb)).trans bx;have bO:=Z_ cF;have X:=Z_ cl;have e0:=Z_ (ck.ae (w':=W2) λb o hb=>D_ (a:=⟨b,o,b_⟩) (bN b hb));have e2:(O:Int)<=255:=by omega
 have HN:=Z_ bf;have g5:=Z_ hU;have e3:=Z_ hM;have bR:=Z_ ev;have g6:x_ (W2.heap.size=w.heap.size+1):=Z_ (by rw[a1];simp);obtain⟨y0,y1,y2⟩:=aR ee.o;obtain⟨q0,q1,q2⟩:=au ee.o;rw[Z]at bd bx eC y0 y1 y2 q0 q1 q2;rw[a1]at cm cp;clear K bj ck bg ch bN cF cl hU hM ev k3 hn eo g0 bB hc hm h2 gz hb bf Z ad;go_enter Tryz.func55,Tryz.ntmps55;go_wp2_with fail;rw[<-a1]at cm cp⊢;clear a1 bd bx eC y0 y1 y2 q0 q1 q2 r3;refine(g4.o W2).mono ?_;rintro e w2 ⟨rfl,rfl⟩;obtain⟨y0,y1,y2⟩:=aR X.o;obtain⟨q0,q1,q2⟩:=au X.o;by_cases hu:dy U=v_
 rotate_left
 ·have bk:dy U=false:=by simpa using hu
  have bb:x_ (de L=b_):=Z_ (by
   unfold dy at bk;rw[bR.o]at bk;have:=Ls bk;unfold de;rw[cE.o,I_ (by have:=HN.o;omega),G_ this])
  obtain⟨Wf,I,G,j,-⟩:=ju (g_ ⟨#[]⟩) (e_ d_ 0) (a_ b_ 0 0) X.o bO.o;obtain⟨f0,f1,f2⟩:=aR G;rw[bk];clear hu bk;go_wp2;rw[<-I];refine C_ (v:=J_ #[JI #[g_ ⟨#[]⟩,e_ d_ 0,a_ b_ 0 0],u_ o_,u_ o_]) (by simp[results,LP,go_sem,f0,f1,f2]) rfl ?_;rw[Y.o];exact iV bb.o j
 have b0:=hu;unfold dy at b0;rw[bR.o]at b0;have g7:=Z_ (Kv b0);have D:x_ (de L=gX U x0 (L.drop (2+O))):=Z_ (by
  unfold de;rw[cE.o,I_ (by have:=HN.o;omega),I_ (λhn=>hn g7.o),g5.o,g1.o])
 obtain⟨R,hR⟩:=N_ (L.drop (2+O));have b1:R.length=M:=by rw[hR,e3.o,Kr]
 have bm:bw w2 w (a_ A4 R.length c4) (l_ R):=by rw[b1,e3.o,hR];exact e0.o
 rw[<-hR]at D;rw[hu];clear hu b0;by_cases e4:x0=2
 ·subst e4
  have HT:x_ (de L=if R.length=0 then c_ (⟨U,0,[]⟩,o_)else b_):=Z_ (by rw[D.o];rfl);obtain⟨Wf,I,G,j,-⟩:=ju (g_ U) (e_ d_ 0) (a_ b_ 0 0) X.o bO.o;obtain⟨f0,f1,f2⟩:=aR G;have HE:x_ (∀ok:Bool,ok=decide (M=0)->P (k_ (J_ #[JI #[g_ U,e_ d_ 0,a_ b_ 0 0],u_ o_,u_ ok])) Wf):=Z_ λok e5=>by
   rw[Y.o];by_cases e6:M=0
   ·rw[G_ O_]at HT
    refine⟨j,_,_,_,_,_,_,_,rfl,λh=>(by rw[HT.o]at h;cases h),λE t h=>?_⟩;rw[HT.o]at h;simp only[Lx,Mk]at h;obtain⟨rfl,rfl⟩:=h;exact⟨by rw[e5,JR e6],rfl,b_,0,rfl,by rw[bR.o];omega,bA.nil _ _ _ _ (Km _)⟩
   rw[I_ O_]at HT;rw[e5,JJ e6];exact iV HT.o j
  clear D;go_wp2;rw[<-I];refine C_ (v:=J_ #[JI #[g_ U,e_ d_ 0,a_ b_ 0 0],u_ o_,u_ ((M:Int)==0)]) (by simp[results,LP,go_sem,f0,f1,f2]) rfl ?_;refine HE.o _ ?_;by_cases h:M=0
  ·subst h;rfl
  rw[JJ h,KN];omega
 have hG:((x0:Int)==2)=false:=by rw[KN];omega
 obtain⟨Wf,I,G,j,c7⟩:=ju (g_ ⟨#[]⟩) (e_ d_ 0) (a_ b_ 0 0) X.o bO.o;by_cases bB:x0=1
 rotate_left
 ·have e2:((x0:Int)==1)=false:=by rw[KN];omega
  have V:x_ (de L=b_):=Z_ (by rw[D.o];exact tH e4 bB);obtain⟨f0,f1,f2⟩:=aR G;clear D;go_wp2;rw[<-I];refine C_ (v:=J_ #[JI #[g_ ⟨#[]⟩,e_ d_ 0,a_ b_ 0 0],u_ o_,u_ o_]) (by simp[results,LP,go_sem,f0,f1,f2]) rfl ?_;rw[Y.o];exact iV V.o j
 subst bB;by_cases hJ:M<4
 ·have e7:(M:Int)<4:=by omega
  have V:x_ (de L=b_):=Z_ (by rw[D.o];exact pN O_);obtain⟨f0,f1,f2⟩:=aR G;clear D;go_wp2;rw[<-I];refine C_ (v:=J_ #[JI #[g_ ⟨#[]⟩,e_ d_ 0,a_ b_ 0 0],u_ o_,u_ o_]) (by simp[results,LP,go_sem,f0,f1,f2]) rfl ?_;rw[Y.o];exact iV V.o j
 have e8:¬R.length<4:=by omega
 have e7:¬(M:Int)<4:=by omega
 obtain⟨A5,c5,cr,ct⟩:=fJ bm 4 O_;have r5:∀w',(KO 24 (a_ A4 M c4) (c_ (e_ d_ 4)) b_ b_).run h_ w'=.ok (a_ A5 (M - 4) c5) w':=λw'=>by
  have:=eF A4 R.length c4 4 w' O_;rw[cr,b1]at this;exact this
 obtain⟨hK,hL,eA,_,_,ak⟩:=bm.bq;injection eA with g8 _ ha;subst g8 ha;obtain⟨b4,o4,z0,hf,hO,e9,b2,hh⟩:=ak.byte (show 0<R.length by omega);subst hf;obtain⟨_,_,z1,e1,-,hl,ad,ho⟩:=ak.byte (show 1<R.length by omega);cases e1;obtain⟨_,_,z2,e1,-,hq,a2,ht⟩:=ak.byte (show 2<R.length by omega);cases e1;obtain⟨_,_,z3,e1,-,hv,b3,hy⟩:=ak.byte (show 3<R.length by omega);cases e1;simp only[L5]at e9;have bn:cI (R.take 4)=z0*16777216+z1*65536+z2*256+z3:=by rw[FP R O_,hh.o,ho.o,ht.o,hy.o]
 obtain⟨N,hN⟩:∃N:Nat,N=z0*16777216+z1*65536+z2*256+z3:=⟨_,rfl⟩;have fb:=Hv z0 z1 z2 z3 b2 ad a2 b3;rw[<-hN]at fb bn;have c8:=Z_ bn;have hQ:N<4294967296:=by rw[hN];exact FO z0 z1 z2 z3 b2 ad a2 b3
 clear hN;have hT:0<M:=by omega
 have hV:1<M:=by omega
 have hW:2<M:=by omega
 have hX:3<M:=by omega
 have hY:=iJ z0 b2;have h4:=iJ z1 ad;have hs2:=iJ z2 a2;have h5:=iJ z3 b3;have fi:=Z_ ct;have c9:=Z_ e8;have hz:=Z_ b1;clear ak bm cr ct bn I G j c7 e8 b1 hR b2 ad a2 b3;go_wp2_with fail
 go_region
 obtain⟨W5,bo⟩:=N_ ((w2.setCell ⟨w,1,b_⟩ (e_ d_ (N:Int))).drew);have cu:W5.heap[w.heap.size]?=c_ (f_ #[g_ U,e_ d_ (N:Int),a_ b_ 0 0] 55 (0,0)):=by
  rw[bo];have:=ai X.o 1 (e_ d_ (N:Int));show(w2.setCell ⟨w,1,b_⟩ (e_ d_ (N:Int))).heap[w.heap.size]?=_;simpa using this
 have df:Kept (·=w.heap.size) w2 W5:=by rw[bo];exact((Kept.refl (·=w.heap.size) _).setCell (p:=⟨w,1,b_⟩) (.inl rfl) _).drew
 have a2:=g6.o;have fr:n_ w w W5:=bO.o.trans (df.below O_ (λk hk=>by omega));have fz:W5.heap.size=w.heap.size+1:=by rw[bo];show(w2.setCell _ _).heap.size=_;simpa[World.setCell]using a2
 have bp:bw W5 W5 (a_ A5 (R.length - 4) c5) (l_ (R.drop 4)):=(fi.o.ae (w':=W5) λb o hb=>D_ (a:=⟨b,o,b_⟩) (df.block b O_ O_)).more O_;rw[hz.o]at bp;have gn:=yk (R.drop 4) _ W5 bp;have HB5:=Z_ fr;have gp:=Z_ cu;have dv:=Z_ fz;have hA:=Z_ gn;rw[<-bo];clear gn bp fz fr df bo cu fb e9 hl hq hv y0 y1 y2 q0 q1 q2;go_wp2_with fail;refine hA.o.mono ?_;rintro e w6 ⟨ba,v6,rfl,b5,b6⟩;have h6:=ba.size;have J:=(ba.block _ (by have:=dv.o;omega)).trans gp.o;have HB6:x_ (n_ w w w6):=Z_ (HB5.o.trans (ba.mono (by have:=dv.o;omega)));obtain⟨y0,y1,y2⟩:=aR J;obtain⟨q0,q1,q2⟩:=au J;obtain⟨Wf,I,G,j,c7⟩:=ju (g_ ⟨#[]⟩) (e_ d_ 0) (a_ b_ 0 0) J HB6.o;cases hd:fE (R.drop 4)with
 |none=>
  have V:x_ (de L=b_):=Z_ (by rw[D.o];exact tG c9.o hd);have hB:=b6 hd;subst hB;obtain⟨f0,f1,f2⟩:=aR G;clear b5 b6 ba J G;dsimp only[MN];go_wp2;rw[<-I];refine C_ (v:=J_ #[JI #[g_ ⟨#[]⟩,e_ d_ 0,a_ b_ 0 0],u_ o_,u_ o_]) (by simp[results,LP,go_sem,f0,f1,f2]) rfl ?_;rw[Y.o];exact iV V.o j
 |some xs=>
  have cb:=b5 xs hd;obtain⟨A6,c6,rfl,-,-⟩:=cb.form;dsimp only[MN];by_cases hN:1073741824<=N
  ·have hD:(1073741824:Int)<=(N:Int):=by omega
   have V:x_ (de L=b_):=Z_ (by rw[D.o];exact tF c9.o (by rw[c8.o];exact hN));obtain⟨f0,f1,f2⟩:=aR G;clear b5 b6 ba J G cb;go_wp2;rw[<-I];refine C_ (v:=J_ #[JI #[g_ ⟨#[]⟩,e_ d_ 0,a_ b_ 0 0],u_ o_,u_ o_]) (by simp[results,LP,go_sem,f0,f1,f2]) rfl ?_;rw[Y.o];exact iV V.o j
  have hD:¬(1073741824:Int)<=(N:Int):=by omega
  have V:x_ (de L=c_ (⟨U,(N:Int),xs⟩,v_)):=Z_ (by rw[D.o,<-c8.o];exact xJ c9.o hd (by rw[c8.o];exact hN));obtain⟨W7,cc⟩:=N_ (w6.setCell ⟨w,2,b_⟩ (a_ A6 xs.length c6));have av:W7.heap[w.heap.size]?=c_ (f_ #[g_ U,e_ d_ (N:Int),a_ A6 xs.length c6] 55 (0,0)):=by
   rw[cc];have:=ai J 2 (a_ A6 xs.length c6);simpa using this
  have cd:Kept (·=w.heap.size) w6 W7:=by rw[cc];exact(Kept.refl (·=w.heap.size) _).setCell (p:=⟨w,2,b_⟩) (.inl rfl) _
  have gv:n_ w w W7:=HB6.o.trans (cd.below (by have:=HB6.o.size;omega) (λk hk=>by omega));obtain⟨Wg,hE,gy,cv,eb⟩:=ju (g_ U) (e_ d_ (N:Int)) (a_ A6 xs.length c6) av gv;obtain⟨p0,p1,p2⟩:=aR av;obtain⟨s0,s1,s2⟩:=au av;have HE:x_ (P (k_ (J_ #[JI #[g_ U,e_ d_ (N:Int),a_ A6 xs.length c6],u_ v_,u_ v_])) Wg):=Z_ (by
   rw[Y.o];refine⟨cv,_,_,_,_,_,_,_,rfl,λh=>(by rw[V.o]at h;cases h),λE t h=>?_⟩;rw[V.o]at h;simp only[Lx,Mk]at h;obtain⟨rfl,rfl⟩:=h;refine⟨rfl,rfl,A6,c6,rfl,by rw[bR.o];omega,cb.ae λg hg=>?_⟩;have h1:=dv.o;have h2:=cd.size;have h3:=eb.size;exact⟨by omega,(eb.block g O_ O_).trans (cd.block g hg.2 O_)⟩)
  obtain⟨f0,f1,f2⟩:=aR gy;rw[cc]at p0 p1 p2 s0 s1 s2;clear b5 b6 ba J G cb av cd gv gy cv eb I j c7;go_wp2;rw[<-cc,<-hE];refine C_ (v:=J_ #[JI #[g_ U,e_ d_ (N:Int),a_ A6 xs.length c6],u_ v_,u_ v_]) (by simp[results,LP,go_sem,f0,f1,f2]) rfl ?_;exact HE.o
def lP(v:m_):Option (DataW m_×List MemPlace):=c_ (.held v,[])
theorem wm{v d:m_}{ps:List MemPlace}(h:lP v=c_ (.held d,ps)):v=d:=by
 unfold lP at h;simp only[Lx,Mk,DataW.held.injEq]at h;exact h.1
structure gY where
 e:En
 v:m_
def dA(x:gY):List UInt8:=aB x.e
def iq(xs:List gY):DataW Value:=.map (xs.map fun x=>(.string (dA x),.held x.v))
theorem oT(x:gY):∀xs:List gY,MT (H:=m_) (.string (dA x),.held x.v) (xs.map λx=>(.string (dA x),.held x.v))=(dm dA x xs).map λx=>(.string (dA x),.held x.v)
 |[]=>rfl
 |y::xs=>by
  cases h:Kk (dA x) (dA y)with
  |true=>
   have j:(Mx (dA x)).before (Mx (dA y))=true:=h;simp[MT,dm,h,j]
  |false=>
   have j:(Mx (dA x)).before (Mx (dA y))=false:=h;simp[MT,dm,h,j,oT x xs]
theorem C7(x:gY)(xs:List gY):(iq xs).put (.string (dA x)) (.held x.v)=iq (aq dA x xs):=by
 unfold iq DataW.put aq an;simp only[];rw[List.filter_map,oT]
 congr 3
theorem C5(s:List UInt8)(xs:List gY):(iq xs).del (.string s)=iq (an dA s xs):=by
 unfold iq DataW.del an;simp only[];rw[List.filter_map]
 congr 2
theorem sY(s:List UInt8):((λp:Lit×DataW m_=>p.1.sameKey (.string s))∘λx:gY=>(Mx (dA x),DataW.held x.v))=λy=>dA y==s:=by
 funext y;rfl
def sg:m_:=JI #[g_ ⟨#[]⟩,e_ d_ 0,a_ b_ 0 0]
def Cz(xs:List gY)(s:List UInt8):m_:=match aj dA s xs with|some x=>x.v|none=>sg
theorem zM(s:List UInt8)(xs:List gY):(iq xs).atKey (.string s) (.held sg)=.held (Cz xs s):=by
 unfold iq DataW.atKey Cz aj;simp only[];rw[List.find?_map,sY];cases List.find? (fun y=>dA y==s) xs<;>rfl
theorem C6(s:List UInt8)(xs:List gY):Maps.has (iq xs) (.string s)=(aj dA s xs).isSome:=by
 unfold iq Maps.has aj;simp only[];rw[List.any_map,sY];rw[Bool.eq_iff_iff,List.find?_isSome,List.any_eq_true]
structure dN(w:j_)(px pj mb:Nat)(xs:List gY)(S:Nat->Prop):Prop where
 head:w.heap[px]?=c_ (f_ #[.pointer (c_ ⟨pj,0,b_⟩),.map (c_ mb)] 114 (0,0))
 map:w.ownsMap h_ 9 lP mb xs.length (iq xs)
 rising:cQ dA xs
 yp:∀x∈xs,bW S w x.v x.e
 pm:px≠mb
 np:¬S px/\¬S mb
section
variable{w w':j_}{px pj mb:Nat}{xs:List gY}{S S':Nat->Prop}
theorem dN.ae(h:dN w px pj mb xs S)(hp:w'.heap[px]?=w.heap[px]?)(hm:w'.heap[mb]?=w.heap[mb]?)(D:∀b,S b->w'.heap[b]?=w.heap[b]?):dN w' px pj mb xs S:=
 ⟨hp.trans h.head,dF h.map hm,h.rising,λx hx=>(h.yp x hx).ae λb j=>⟨j,D b j⟩,h.pm,h.np⟩
theorem dN.sub(h:dN w px pj mb xs S)(hS:∀b,S b->S' b)(hn:¬S' px/\¬S' mb):dN w px pj mb xs S':=
 ⟨h.head,h.map,h.rising,λx hx=>(h.yp x hx).ae λb j=>⟨hS b j,rfl⟩,h.pm,hn⟩
theorem dN.lt(h:dN w px pj mb xs S):px<w.heap.size/\mb<w.heap.size:=⟨ao h.head,h.map.lt⟩
end
variable{w:j_}{px pj mb:Nat}{S:Nat->Prop}
theorem tO(w:j_):(zeroValue 55).run h_ w=.ok sg w:=by kernel_rfl
theorem dN.FM{xs:List gY}(h:dN w px pj mb xs S)(s:ByteArray)(hs:s.size<=9223372036854775807):
  (Instr.lookup 112 (.map (some mb)) (.string s) true).run Tryz.prog w=.ok (.tuple #[Cz xs s.data.toList,.bool (aj dA s.data.toList xs).isSome]) w:=by
 obtain⟨v,ps,hrun,hv⟩:=h.map.look_ok rY Tryz.underlying112 (tO _) (zd:=.held sg) (zp:=[]) rfl (iw s hs);rw[hrun,C6];rw[zM]at hv;rw[wm hv]
theorem na{b n:Nat}{xs:List gY}(h:w.ownsMap Tryz.prog 9 lP b n (iq xs)):w.ownsMap Tryz.prog 9 lP b xs.length (iq xs):=by
 obtain⟨es,clock,h1,h2,h3,h4⟩:=h;refine⟨es,clock,h1,h2,?_,h4⟩;unfold iq at h4;injection h4 with h4;have:=congrArg List.length h4;rw[length_sorted]at this;simp at this;omega
theorem dN.put{xs:List gY}(h:dN w px pj mb xs S)(Z:xs.length<=1000000000)(x:gY)(hx:bW S w x.v x.e)(hs:x.e.uri.size<=9223372036854775807):
  ∃w',(Instr.mapUpdate 112 (.map (c_ mb)) (.string x.e.uri) x.v).run h_ w=.ok () w'/\dN w' px pj mb (aq dA x xs) S/\Kept (·=mb) w w'/\w'.heap.size=w.heap.size:=by
 obtain⟨w',D,G,V⟩:=h.map.store (n:=xs.length) rY Mw (by unfold JT;omega) (iw x.e.uri hs) (val:=x.v) (d:=.held x.v) (ps:=[]) rfl;have J:Kept (·=mb) w w':=(Kept.refl _ w).grown V.grown (λk e=>by cases e;exact .inl rfl);have K:w'.heap.size=w.heap.size:=by
  obtain⟨es,clock,X,I,M,rfl⟩:=V;simp[ChangeMaps.setBlock]
 refine⟨w',D,⟨(J.block px h.lt.1 h.pm).trans h.head,?_,h.rising.aq,λy Y=>?_,h.pm,h.np⟩,J,K⟩
 ·have j:w'.ownsMap h_ 9 lP mb (xs.length+1) (iq (aq dA x xs)):=by rw[<-C7];exact G
  exact na j
 have key:∀z:gY,bW S w z.v z.e->bW S w' z.v z.e:=λz K=>K.ae λb M=>⟨M,by
  by_cases O:b<w
  ·exact J.block b O (λe=>h.np.2 (e▸M))
  rw[Ly O_,Ly O_]⟩
 rcases cP.1 Y with rfl|⟨h1,_⟩
 ·exact key _ hx
 exact key _ (h.yp y h1)
theorem dN.del{xs:List gY}(h:dN w px pj mb xs S)(s:ByteArray)(hs:s.size<=9223372036854775807)(ty:TypeId):
  ∃w',(Builtin.delete_ #[112,9] ty #[.map (c_ mb),g_ s]).run h_ w=.ok (J_ #[]) w'/\dN w' px pj mb (an dA s.data.toList xs) S/\Kept (·=mb) w w'/\w'.heap.size=w.heap.size:=by
 obtain⟨w',D,j,M⟩:=h.map.drop (n:=xs.length) rY Mw (iw s hs) ty;have I:Kept (·=mb) w w':=(Kept.refl _ w).grown M.grown (λk e=>by cases e;exact .inl rfl);have O:w'.heap.size=w.heap.size:=by
  obtain⟨es,clock,V,G,J,rfl⟩:=M;simp[ChangeMaps.setBlock]
 refine⟨w',D,⟨(I.block px h.lt.1 h.pm).trans h.head,?_,h.rising.an _,λy X=>?_,h.pm,h.np⟩,I,O⟩
 ·rw[C5]at j
  exact na j
 exact(h.yp y (cq.1 X).1).ae λb J=>⟨J,by
  by_cases K:b<w
  ·exact I.block b K (λe=>h.np.2 (e▸J))
  rw[Ly O_,Ly O_]⟩
theorem ti(x:gY)(xs:List gY):(aq dA x xs).map (·.e)=aq aB x.e (xs.map (·.e)):=fX (key:=dA) (key':=aB) gY.e (λ_=>rfl) x xs
theorem th(s:List UInt8)(xs:List gY):(an dA s xs).map (·.e)=an aB s (xs.map (·.e)):=lz (key:=dA) (key':=aB) gY.e (λ_=>rfl) s xs
theorem oe(s:List UInt8)(xs:List gY):aj aB s (xs.map (·.e))=(aj dA s xs).map (·.e):=lA (key:=dA) (key':=aB) gY.e (λ_=>rfl) s xs
