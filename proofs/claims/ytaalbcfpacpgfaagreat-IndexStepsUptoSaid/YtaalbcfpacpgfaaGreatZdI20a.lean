import Derived.Test.YtaalbcfpacpgfaaGreatZdIB
set_option linter.all false
open Bool renaming false->o_
open Go.Op renaming bytesLess->K4
open Go renaming bytesBefore->Kk
namespace Go.Ix
open Go.RowKit Go.Lib Go.Vfs Go.Par Go.Typ
def cZ(E:En)(s:List En×Bool)(y:En):List En×Bool:=
 if y.uri=E.uri then s else if s.2=o_/\K4 E.uri.toList y.uri.toList=true then((s.1++[E])++[y],true)else(s.1++[y],s.2)
def kq(E:En)(ys:List En):List En×Bool:=ys.foldl (cZ E) ([],o_)
def Gv(E:En)(ys:List En):List En:=if(kq E ys).2 then(kq E ys).1 else(kq E ys).1++[E]
theorem lR:∀a b:List UInt8,K4 a b=Kk a b
 |[],[]=>rfl
 |_::_,[]=>rfl
 |[],_::_=>rfl
 |a::x,b::y=>by simp only[K4,Kk,lR x y]
theorem qd(x y:En):x.uri=y.uri↔aB x=aB y:=by
 unfold aB;constructor
 ·intro h;rw[h]
 intro h;obtain⟨u,_,_⟩:=x;obtain⟨j,_,_⟩:=y;cases u;cases j;simp only at h⊢;rw[Ll.1 h]
theorem og(E:En):∀(j acc:List En),j.foldl (cZ E) (acc,true)=(acc++an aB (aB E) j,true)
 |[],acc=>by simp[an]
 |y::j,acc=>by
  rw[LU];unfold cZ;by_cases h:y.uri=E.uri
  ·have t:=(qd y E).1 h
   rw[G_ h];have:=og E j acc;unfold cZ at this;rw[this];simp[an,t]
  have t:¬aB y=aB E:=λe=>h ((qd y E).2 e)
  rw[I_ h,I_ (by simp)];have:=og E j (acc++[y]);unfold cZ at this;simp only;rw[this];simp[an,t]
theorem mx(E:En):∀(j acc:List En),(if(j.foldl (cZ E) (acc,o_)).2 then(j.foldl (cZ E) (acc,o_)).1 else(j.foldl (cZ E) (acc,o_)).1++[E])=acc++aq aB E j
 |[],acc=>by simp[aq,an,dm]
 |y::j,acc=>by
  rw[LU];by_cases h:y.uri=E.uri
  ·have G:=(qd y E).1 h
   rw[show cZ E (acc,o_) y=(acc,o_) by unfold cZ;rw[G_ h],mx E j acc];simp[aq,an,G]
  have G:¬aB y=aB E:=λe=>h ((qd y E).2 e)
  have hw:aq aB E (y::j)=if Kk (aB E) (aB y)then E::y::an aB (aB E) j else y::aq aB E j:=by
   unfold aq;rw[show an aB (aB E) (y::j)=y::an aB (aB E) j by simp[an,G]];rfl
  have t:K4 E.uri.toList y.uri.toList=Kk (aB E) (aB y):=by
   rw[lR];unfold aB;rw[KY,KY]
  by_cases D:Kk (aB E) (aB y)=true
  ·rw[show cZ E (acc,o_) y=((acc++[E])++[y],true) by unfold cZ;rw[I_ h,G_ ⟨rfl,t.trans D⟩],og,hw,G_ D]
   simp
  rw[show cZ E (acc,o_) y=(acc++[y],o_) by unfold cZ;rw[I_ h,I_ (by rintro⟨-,I⟩;exact D (t.symm.trans I))],mx E j (acc++[y]),hw,I_ D];simp
theorem BC(E:En)(j:List En):Gv E j=aq aB E j:=by
 have:=mx E j [];rw[Kl]at this;exact this
theorem BD(E:En){t:List En}{j:Nat}(h:j<t.length):kq E (t.take (j+1))=cZ E (kq E (t.take j)) t[j]:=by
 rw[y_ h];unfold kq;rw[List.foldl_append];rfl
theorem DF(E:En)(j:List En):(kq E j).1.length<=2*j.length:=by
 have key:∀(j:List En) (s:List En×Bool),(j.foldl (cZ E) s).1.length<=s.1.length+2*j.length:=by
  intro j
  induction j with
  |nil=>intro s;simp
  |cons y j t=>
   intro s;rw[LU];have h1:=t (cZ E s y);have h2:(cZ E s y).1.length<=s.1.length+2:=by
    unfold cZ;split
    ·omega
    split<;>simp
   rw[Jz];omega
 have:=key j ([],o_);simpa[kq]using this
end Go.Ix
