/- Merged of VB V31 V32 V33 V34 VC V35 VD. -/
import Derived.Deep.QuietTactic
import Derived.BigQuiet
import Derived.Deep.RegionWith
import Derived.Deep.DeepCutAuto
import Derived.BigRegion
import Derived.Test.YtaalbcfpacpgfaaGreatZaM3
set_option linter.unusedVariables false
set_option linter.unusedSimpArgs false
namespace Go.Par
open Go.RowKit Go.Lib
structure ElemN (P:Program) (t e:TypeId) (size bytes:Nat):Prop where
 und:P.underlying t=some (.slice e)
 info:∃ i z,P.info? e=some i∧i.zero=some z∧i.size=size∧i.bytes=bytes∧z.cells.size=size
 pos:0 < size
theorem elemN_of {P:Program} {t e:TypeId} {z:Value} {size b:Nat} (ht:P.underlying t=some (.slice e)) (h:(P.info? e).map (fun i=>(i.zero,i.size,i.bytes))=some (some z,size,b)) (hp:0 < size) (h1:z.cells.size=size):ElemN P t e size b:=by
 obtain ⟨i,hi,h0,h2,h3⟩:=info_parts h
 exact ⟨ht,⟨i,z,hi,h0,h2,h3,h1⟩,hp⟩
theorem wpList_app1 {P:Program} (w:World) {ops:Array Oper} {rest:List Oper} {o:Oper} {a:Act} {Q:Exit→Act→World→Prop} (hgd:o.guard=none) (s x:Operand) (t:TypeId)
  (ho:o.op=.call { callee:=.builtin .append,args:=#[s,x],argTypes:=#[t,t] })
  (base:Nat) (e:TypeId) (size bytes:Nat) (E:ElemN P t e size bytes) (v:Value) (n:Nat) (xs:List Value) (hs:a.eval s=v) (hown:w.ownsRow base e size v n xs)
  (g:Nat) (news:List Value) (hx:a.eval x=.slice (some ⟨g,0,none⟩) 1 1) (hnl:news.length=size) (hsg:∀ j u,news[j]? = some u→w.cell? ⟨g,j,none⟩=some u) (h1:∀ u∈news,u.oneCell'=true)
  (hbd:(n+1) * bytes≤140737488355328) (hn:n+1≤9223372036854775807) (hbase:base≤w.heap.size)
  (h:∀ v' w',w'.ownsRow base e size v' (n+1) (xs ++ news)→w.grownBy w' v.ownBlock→(v'.ownBlock=v.ownBlock∨v'.ownBlock=some w.heap.size)→wpList P ops Q rest (a.put o.dst v') w'):wpList P ops Q (o :: rest) a w:=by
 obtain ⟨i,z,hi,hz,hsz,hby,hzs⟩:=E.info
 obtain ⟨v',w',hr,h2,h3,_,h5⟩:=run_append_own_at (P:=P) w base t o.type e i z size bytes E.und hi hz hsz hby hzs E.pos v n xs hown ⟨g,0,none⟩ 1 1 news (by omega) (fun j u hj=>by rw [add_addr,Nat.zero_add];exact hsg j u hj) h1 (by simp only [maxLen];omega) hbd hbase
 refine wpList_plain hgd fun _ hK=>?_
 unfold Oper.wp execOp
 simp only [ho,resolve,invoke,builtin,Sem.run_bind,Sem.run_pure,Result.andThen_ok,List.map_toArray,List.map_cons,List.map_nil,hs,hx,hr]
 exact hK _ _ (h v' w' h2 h3 h5)
end Go.Par
namespace Go.Proofs.YtaalbcfpacpgfaaGreat
open Go.RowKit Go.Lib Go.Vfs Go.Par
def FileS (S:Nat→Prop) (w:World) (f:File) (b off:Nat):Prop :=
 ∃ v,w.cell? ⟨b,off,none⟩=some (.string ⟨f.name.toArray⟩)∧w.cell? ⟨b,off+1,none⟩=some v∧w.cell? ⟨b,off+2,none⟩=some (.int .i64 f.safe)∧SegS S w v (byteCells f.data)
def RefS (S:Nat→Prop) (w:World) (v:Value) (fs:List File):Prop :=
 ∃ A c,v=.slice A fs.length c∧fs.length≤c∧c≤9223372036854775807∧∀ i (h:i < fs.length),∃ b off,A=some ⟨b,off,none⟩∧S b∧FileS S w fs[i] b (off+i * 3)
theorem FileS.keep {S S':Nat→Prop} {w w':World} {f:File} {b off:Nat} (h:FileS S w f b off) (hb:S b) (hk:∀ b,S b→S' b∧w'.heap[b]? = w.heap[b]?):FileS S' w' f b off:=by
 obtain ⟨v,h1,h2,h3,h4⟩:=h
 have e:∀ o,w'.cell? ⟨b,o,none⟩=w.cell? ⟨b,o,none⟩:=fun o=>World.cell?_of_block (a:=⟨b,o,none⟩) (hk b hb).2
 exact ⟨v,by rw [e];exact h1,by rw [e];exact h2,by rw [e];exact h3,h4.keep hk⟩
theorem RefS.keep {S S':Nat→Prop} {w w':World} {v:Value} {fs:List File} (h:RefS S w v fs) (hk:∀ b,S b→S' b∧w'.heap[b]? = w.heap[b]?):RefS S' w' v fs:=by
 obtain ⟨A,c,h1,h2,h3,h4⟩:=h
 refine ⟨A,c,h1,h2,h3,fun i hi=>?_⟩
 obtain ⟨b,off,e,hb,hf⟩:=h4 i hi
 exact ⟨b,off,e,(hk b hb).1,hf.keep hb hk⟩
theorem RefS.nil (S:Nat→Prop) (w:World):RefS S w (.slice none 0 0) []:=⟨none,0,rfl,by simp,by simp,fun i hi=>by simp at hi⟩
theorem RefS.form {S:Nat→Prop} {w:World} {v:Value} {fs:List File} (h:RefS S w v fs):∃ A c,v=.slice A fs.length c∧fs.length≤c∧c≤9223372036854775807:=by
 obtain ⟨A,c,h1,h2,h3,-⟩:=h
 exact ⟨A,c,h1,h2,h3⟩
theorem RefS.file {S:Nat→Prop} {w:World} {A:Option Addr} {n c:Nat} {fs:List File} (h:RefS S w (.slice A n c) fs) (i:Nat) (hi:i < fs.length):∃ b off,A=some ⟨b,off,none⟩∧S b∧FileS S w fs[i] b (off+i * 3):=by
 obtain ⟨A',c',e,h2,h3,h4⟩:=h
 injection e with e1 e2 e3
 subst e1
 exact h4 i hi
def New (S:Nat→Prop) (w w':World) (b:Nat):Prop:=S b∨(w.heap.size≤b∧b < w'.heap.size)
theorem RefS.below {S:Nat→Prop} {w w':World} {v:Value} {fs:List File} (h:RefS S w v fs) (hS:∀ b,S b→b < w.heap.size) (hb:Below w.heap.size w w'):RefS S w' v fs:=h.keep fun b hs=>⟨hs,hb.block b (hS b hs)⟩
theorem New.lt {S:Nat→Prop} {w w':World} (hS:∀ b,S b→b < w.heap.size) (hz:w.heap.size≤w'.heap.size):∀ b,New S w w' b→b < w'.heap.size:=by
 rintro b (h|h)
 ·have:=hS b h;omega
 ·exact h.2
theorem New.mono {S:Nat→Prop} {w w1 w2:World} (h2:w1.heap.size≤w2.heap.size):∀ b,New S w w1 b→New S w w2 b:=by
 rintro b (h|h)
 ·exact .inl h
 ·exact .inr ⟨h.1,by omega⟩
theorem RefS.sub {S S':Nat→Prop} {w:World} {v:Value} {fs:List File} (h:RefS S w v fs) (hS:∀ b,S b→S' b):RefS S' w v fs:=h.keep fun b hb=>⟨hS b hb,rfl⟩
def fcells (x:File × Value):List Value:=[.string ⟨x.1.name.toArray⟩,x.2,.int .i64 x.1.safe]
theorem fcells_len (ls:List (File × Value)):(ls.flatMap fcells).length=ls.length * 3:=by
 induction ls with
 | nil=>rfl
 | cons a l ih=>simp only [List.flatMap_cons,List.length_append,ih,fcells,List.length_cons,List.length_nil];omega
theorem fcells_get:∀ (ls:List (File × Value)) (i j:Nat) (h:i < ls.length) (hj:j < 3),(ls.flatMap fcells)[i * 3+j]? = (fcells ls[i])[j]?
 | [],i,j,h,hj=>by simp at h
 | a :: l,0,j,h,hj=>by
  rw [List.flatMap_cons,List.getElem?_append_left (by simp [fcells];omega)]
  simp
 | a :: l,i+1,j,h,hj=>by
  rw [List.flatMap_cons,List.getElem?_append_right (by simp [fcells];omega)]
  have:(i+1) * 3+j - (fcells a).length=i * 3+j:=by simp [fcells];omega
  rw [this,fcells_get l i j (by simpa using h) hj]
  simp
theorem fileE:ElemN Tryz.prog 31 109 3 48:=elemN_of (z:=.agg #[.string ⟨#[]⟩,.slice none 0 0,.int .i64 0]) Tryz.underlying31 (by kernel_rfl) (by decide) rfl
structure Rw (w:World) (S:Nat→Prop) (v:Value) (ls:List (File × Value)) (wr:World):Prop where
 below:Below w.heap.size w wr
 own:wr.ownsRow w.heap.size 109 3 v ls.length (ls.flatMap fcells)
 data:∀ x∈ls,SegS (fun b=>New S w wr b∧v.ownBlock≠some b) wr x.2 (byteCells x.1.data)
theorem Rw.form {w:World} {S:Nat→Prop} {v:Value} {ls:List (File × Value)} {wr:World} (h:Rw w S v ls wr):∃ A c,v=.slice A ls.length c:=by
 rcases h.own.2 with ⟨rfl,h0⟩|⟨g,cap,cur,rfl,_⟩
 ·exact ⟨none,0,by rw [h0]⟩
 ·exact ⟨_,cap,rfl⟩
theorem Rw.empty {w W:World} {S:Nat→Prop} (hb:Below w.heap.size w W) (hS:∀ b,S b→b < w.heap.size):Rw w S (.slice (some ⟨W.heap.size,0,none⟩) 0 0) [] (W.alloc (.cells #[] 109)) :=
 ⟨hb.alloc hb.size _,⟨rfl,.inr ⟨W.heap.size,0,#[],rfl,hb.size,heap_alloc_new W _,Nat.le_refl _,by simp [maxLen],by simp,by simp⟩⟩,fun x hx=>by cases hx⟩
theorem Rw.go {w:World} {S:Nat→Prop} {v:Value} {ls:List (File × Value)} {wr w2:World} (h:Rw w S v ls wr) (hS:∀ b,S b→b < w.heap.size) (hb:Below wr.heap.size wr w2):Rw w S v ls w2:=by
 have hz:=h.below.size
 refine ⟨h.below.trans (hb.mono hz),World.ownsRow.kept (row:=.none) h.own ⟨hb.os,hb.tape,hb.output,hb.size,fun k hk _=>hb.block k hk⟩ (by cases v.ownBlock <;> simp),fun x hx=>?_⟩
 exact (h.data x hx).keep fun b ⟨b1,b2⟩=>⟨⟨New.mono hb.size b b1,b2⟩,hb.block b (New.lt hS hz b b1)⟩
theorem Rw.push {w:World} {S:Nat→Prop} {v:Value} {ls:List (File × Value)} {w2 w3:World} (h:Rw w S v ls w2) (hS:∀ b,S b→b < w.heap.size) {f:File} {u:Value}
  (hu:SegS (fun b=>New S w w2 b∧v.ownBlock≠some b) w2 u (byteCells f.data)) {v':Value} (hown:w3.ownsRow w.heap.size 109 3 v' (ls.length+1) (ls.flatMap fcells ++ fcells (f,u)))
  (hg:w2.grownBy w3 v.ownBlock) (hat:v'.ownBlock=v.ownBlock∨v'.ownBlock=some w2.heap.size):Rw w S v' (ls ++ [(f,u)]) w3:=by
 have hz:=h.below.size
 have hv:∀ g,v.ownBlock=some g→w.heap.size≤g∧g < w2.heap.size:=fun g e=>World.ownsRow.lt h.own g e
 have hstep:∀ b,New S w w2 b∧v.ownBlock≠some b→(New S w w3 b∧v'.ownBlock≠some b)∧w3.heap[b]? = w2.heap[b]?:=fun b ⟨b1,b2⟩=>by
  have hlt:=New.lt hS hz b b1
  refine ⟨⟨New.mono hg.size b b1,fun e=>?_⟩,hg.block b hlt (fun e=>b2 e.symm)⟩
  rcases hat with e1|e1
  ·exact b2 (e1.symm.trans e)
  ·rw [e1] at e;cases e;omega
 refine ⟨h.below.grown hg hz (fun g e=>(hv g e).1),?_,fun x hx=>?_⟩
 ·have e:(ls ++ [(f,u)]).flatMap fcells=ls.flatMap fcells ++ fcells (f,u):=by simp
  rw [e,List.length_append]
  exact hown
 ·rcases List.mem_append.1 hx with hx | hx
  ·exact (h.data x hx).keep hstep
  ·simp at hx
   subst hx
   exact hu.keep hstep
theorem Rw.ref {w:World} {S:Nat→Prop} {v:Value} {ls:List (File × Value)} {wr:World} (h:Rw w S v ls wr):RefS (New S w wr) wr v (ls.map (·.1)):=by
 have hz:=h.below.size
 have hv:∀ g,v.ownBlock=some g→w.heap.size≤g∧g < wr.heap.size:=fun g e=>World.ownsRow.lt h.own g e
 rcases h.own.2 with ⟨rfl,h0⟩|⟨g,cap,cur,rfl,hg,hh,hnc,hcm,hsz,htake⟩
 ·have:ls=[]:=List.eq_nil_of_length_eq_zero h0
  subst this
  exact RefS.nil _ _
 ·refine ⟨some ⟨g,0,none⟩,cap,by simp,by simpa using hnc,by simpa [maxLen] using hcm,fun i hi=>?_⟩
  have hi':i < ls.length:=by simpa using hi
  have hc:∀ j,j < 3→wr.cell? ⟨g,0+i * 3+j,none⟩=(fcells ls[i])[j]?:=fun j hj=>by
   have hl:=fcells_len ls
   have hj':i * 3+j < (ls.flatMap fcells).length:=by omega
   have:=World.ownsRow.cells (g:=g) h.own rfl (i * 3+j) _ (List.getElem?_eq_getElem hj')
   rw [add_addr] at this
   rw [←fcells_get ls i j hi' hj,List.getElem?_eq_getElem hj',←this]
   congr 2
   omega
  refine ⟨g,0,rfl,.inr (hv g rfl),ls[i].2,?_,?_,?_,?_⟩
  ·have:=hc 0 (by omega);simp [fcells] at this ⊢;exact this
  ·have:=hc 1 (by omega);simp [fcells] at this ⊢;exact this
  ·have:=hc 2 (by omega);simp [fcells] at this ⊢;exact this
  ·have:=(h.data ls[i] (List.getElem_mem hi')).keep (S':=New S w wr) (w':=wr) fun b hb=>⟨hb.1,rfl⟩
   simpa using this
theorem findL_first {s:List UInt8}:∀ {fs:List File} {i:Nat} (h:i < fs.length),(∀ j (hj:j < i),(fs[j]'(by omega)).name≠s)→fs[i].name=s→findL File.name s fs=some fs[i]
 | [],i,h,_,_=>by simp at h
 | f :: fs,0,h,_,h2=>by rw [findL_cons,if_pos (by simpa using h2)];simp
 | f :: fs,i+1,h,h1,h2=>by
  have h0:=h1 0 (by omega)
  rw [findL_cons,if_neg (by simpa using h0)]
  have:=findL_first (fs:=fs) (i:=i) (by simpa using h) (fun j hj=>by have:=h1 (j+1) (by omega);simpa using this) (by simpa using h2)
  simpa using this
theorem findL_no {s:List UInt8} {fs:List File} (h:∀ j (hj:j < fs.length),fs[j].name≠s):findL File.name s fs=none:=by
 unfold findL
 rw [List.find?_eq_none]
 intro x hx
 obtain ⟨j,hj,rfl⟩:=List.getElem_of_mem hx
 simpa using h j hj
def AtPost (w:World) (fs:List File) (s:List UInt8) (e:Ending) (w':World):Prop :=
 Below w.heap.size w w'∧((∃ i,∃ h:i < fs.length,e=.returned (.int .i64 (i:Nat))∧findL File.name s fs=some fs[i])∨(e=.returned (.int .i64 (-1))∧findL File.name s fs=none))
set_option maxRecDepth 20000 in
set_option maxHeartbeats 1000000 in
theorem rat_any (pow:Int) (v:Value) (fs:List File) (S:Nat→Prop) (w:World) (hS:∀ b,S b→b < w.heap.size) (h:RefS S w v fs) (s:List UInt8) :
  Calls Tryz.prog 52 #[.agg #[.int .i64 pow,v],.string ⟨s.toArray⟩] w (AtPost w fs s):=by
 obtain ⟨A,c,rfl,hc,hm⟩:=h.form
 have hb1:=box_below w (.cells #[.int .i64 pow,.slice A fs.length c] 33)
 have H:=Lib.hid (h.below hS hb1);clear h
 have HB:=Lib.hid hb1;clear hb1
 go_enter Tryz.func52,Tryz.ntmps52
 go_wp2
 go_loopw [5] (fun i wr=>∃ (k n:Nat),k≤fs.length∧i=.int .i64 k∧Hid (∀ j (hj:j < k) (hl:j < fs.length),fs[j].name≠s)∧wr=(w.alloc (.cells #[.int .i64 pow,.slice A fs.length c] 33)).drewN n) (fun i _=>fs.length - (intOf i).toNat)
 case atStart=>exact ⟨0,0,by omega,rfl,Lib.hid (fun j hj=>by omega),rfl⟩
 case round =>
  obtain ⟨k,n,hk,rfl,HN,rfl⟩:=hrel
  by_cases hlt:k < fs.length
  ·obtain ⟨b,off,rfl,hb,u,h0,h1,h2,h3⟩:=H.out.file k hlt
   have hnz:b≠w.heap.size:=by have:=hS b hb;omega
   obtain ⟨nm,hnm⟩:∃ nm,fs[k].name=nm:=⟨_,rfl⟩
   rw [hnm] at h0
   have HNM:=Lib.hid hnm
   clear h1 h2 h3 hnm
   by_cases he:nm=s
   ·subst he
    go_wp2
    go_ret
    exact ⟨below_drewN HB.out _,.inl ⟨k,hlt,rfl,findL_first hlt (fun j hj=>HN.out j hj (by omega)) HNM.out⟩⟩
   ·have hbe:(nm == s)=false:=beq_eq_false_iff_ne.2 he
    go_wp2
    go_roundw
    case rel=>exact ⟨k+1,_,by omega,by go_num,Lib.hid (fun j hj hl=>by
     by_cases hjk:j < k
     ·exact HN.out j hjk hl
     ·have:j=k:=by omega
      subst this
      rw [HNM.out];exact he),rfl⟩
    case measure=>simp [intOf];omega
  ·go_wp2
   go_ret
   exact ⟨below_drewN HB.out _,.inr ⟨rfl,findL_no fun j hj=>HN.out j (by omega) hj⟩⟩
set_option maxRecDepth 20000 in
set_option maxHeartbeats 1000000 in
theorem rname_any (s:ByteArray) (w:World) (hs:s.size≤9223372036854775807) :
  Calls Tryz.prog 91 #[.string s] w fun e w'=>e=.returned (.bool (nameB s.data.toList))∧w'=w:=by
 have hlen:s.data.toList.length=s.size:=(Lib.size_eq s).symm
 obtain ⟨r,hr⟩:∃ r,r=nameB s.data.toList:=⟨_,rfl⟩
 rw [←hr]
 have HRR:=Lib.hid hr;clear hr
 have HL:=Lib.hid hlen;clear hlen
 go_enter Tryz.func91,Tryz.ntmps91
 go_wp2
 go_loop [3] (fun i=>∃ k:Nat,k≤s.size∧i=.int .i64 k∧Hid ((s.data.toList.take k).all okB=true)) (fun i=>s.size - (intOf i).toNat)
 case atStart=>exact ⟨0,by omega,rfl,Lib.hid (by simp)⟩
 case round =>
  obtain ⟨k,hk,rfl,HA⟩:=hrel
  by_cases hlt:k < s.size
  ·have hsn:=all_snoc s k hlt
   rw [HA.out,Bool.true_and] at hsn
   have hbd:=s[k].toNat_lt
   cases hok:okB s[k] with
   | true =>
    rw [hok] at hsn
    have HA2:=Lib.hid hsn
    clear hsn HA
    have hor:=of_decide_eq_true hok
    clear hok
    rcases hor with ⟨h1,h2⟩|⟨h1,h2⟩|h1|h1
    ·have g0:(97:Int)≤(s[k].toNat:Int):=by omega
     have g1:(s[k].toNat:Int)≤122:=by omega
     go_wp2
     go_round
     case rel=>exact ⟨k+1,by omega,by go_num,HA2⟩
     case measure=>simp [intOf];omega
    ·have g0:¬ (97:Int)≤(s[k].toNat:Int):=by omega
     have g1:(48:Int)≤(s[k].toNat:Int):=by omega
     have g2:(s[k].toNat:Int)≤57:=by omega
     go_wp2
     go_round
     case rel=>exact ⟨k+1,by omega,by go_num,HA2⟩
     case measure=>simp [intOf];omega
    ·have g0:¬ (97:Int)≤(s[k].toNat:Int):=by omega
     have g1:¬ (48:Int)≤(s[k].toNat:Int):=by omega
     have g2:((s[k].toNat:Int) == 46)=true:=by simp;omega
     clear h1
     go_wp2
     go_round
     case rel=>exact ⟨k+1,by omega,by go_num,HA2⟩
     case measure=>simp [intOf];omega
    ·have g0:¬ (97:Int)≤(s[k].toNat:Int):=by omega
     have g1:¬ (48:Int)≤(s[k].toNat:Int):=by omega
     have g2:((s[k].toNat:Int) == 46)=false:=by simp;omega
     have g3:((s[k].toNat:Int) == 45)=true:=by simp;omega
     clear h1
     go_wp2
     go_round
     case rel=>exact ⟨k+1,by omega,by go_num,HA2⟩
     case measure=>simp [intOf];omega
   | false =>
    have HF:Hid (r=false):=Lib.hid (by
     rw [HRR.out]
     unfold nameB
     have:s.data.toList.all okB=false:=by
      rw [List.all_eq_false]
      refine ⟨s[k],?_,by rw [hok];simp⟩
      rw [str_get s _ rfl k hlt,List.getD_eq_getElem?_getD,List.getElem?_eq_getElem (by rw [HL.out];exact hlt)]
      exact List.getElem_mem _
     rw [this,Bool.and_false])
    have hor:=of_decide_eq_false hok
    clear hok hsn
    have g5:((s[k].toNat:Int) == 46)=false:=by simp;omega
    have g6:((s[k].toNat:Int) == 45)=false:=by simp;omega
    rcases (show s[k].toNat < 48∨(58≤s[k].toNat∧s[k].toNat < 97)∨122 < s[k].toNat by omega) with h|⟨h,h2⟩|h
    ·have g0:¬ (97:Int)≤(s[k].toNat:Int):=by omega
     have g1:¬ (48:Int)≤(s[k].toNat:Int):=by omega
     clear hor
     go_wp2
     go_ret
     exact ⟨by first | (rw [HF.out];rfl) | rw [HF.out],rfl⟩
    ·have g0:¬ (97:Int)≤(s[k].toNat:Int):=by omega
     have g1:(48:Int)≤(s[k].toNat:Int):=by omega
     have g2:¬ (s[k].toNat:Int)≤57:=by omega
     clear hor
     go_wp2
     go_ret
     exact ⟨by first | (rw [HF.out];rfl) | rw [HF.out],rfl⟩
    ·have g0:(97:Int)≤(s[k].toNat:Int):=by omega
     have g1:¬ (s[k].toNat:Int)≤122:=by omega
     have g2:(48:Int)≤(s[k].toNat:Int):=by omega
     have g3:¬ (s[k].toNat:Int)≤57:=by omega
     clear hor
     go_wp2
     go_ret
     exact ⟨by first | (rw [HF.out];rfl) | rw [HF.out],rfl⟩
  ·have HF:Hid (r=decide (1≤s.size∧s.size≤32)):=Lib.hid (by
    rw [HRR.out]
    unfold nameB
    have:=HA.out
    rw [List.take_of_length_le (by rw [HL.out];omega)] at this
    rw [this,Bool.and_true,HL.out])
   by_cases h1:(1:Int)≤(s.size:Int)
   ·by_cases h2:(s.size:Int)≤32
    ·go_wp2
     go_ret
     refine ⟨?_,rfl⟩
     rw [HF.out]
     apply ret_bool
     simp
     omega
    ·go_wp2
     go_ret
     refine ⟨?_,rfl⟩
     rw [HF.out]
     apply ret_bool
     simp
     omega
   ·go_wp2
    go_ret
    refine ⟨?_,rfl⟩
    rw [HF.out]
    apply ret_bool
    simp
    omega
theorem box2_below (w:World) (o o':Obj):Below w.heap.size w ((w.alloc o).alloc o'):=(box_below w o).alloc (by simp) _
def chk (fs:List File) (s:List UInt8) (must:Bool):Int:=if nameB s then (if must && (findL File.name s fs).isNone then 11 else 0) else 10
set_option maxRecDepth 20000 in
set_option maxHeartbeats 1000000 in
theorem rcheck_any (pow:Int) (v:Value) (fs:List File) (S:Nat→Prop) (w:World) (hS:∀ b,S b→b < w.heap.size) (h:RefS S w v fs) (s:List UInt8) (hs:s.length≤9223372036854775807) (must:Bool) :
  Calls Tryz.prog 50 #[.agg #[.int .i64 pow,v],.string ⟨s.toArray⟩,.bool must] w fun e w'=>e=.returned (.int .i64 (chk fs s must))∧Below w.heap.size w w':=by
 obtain ⟨A,c,rfl,hc,hm⟩:=h.form
 have hb1:=box_below w (.cells #[.int .i64 pow,.slice A fs.length c] 33)
 have H:=Lib.hid (h.below hS hb1);clear h
 have HB:=Lib.hid hb1;clear hb1
 have hz:(⟨s.toArray⟩:ByteArray).size≤9223372036854775807:=hs
 go_enter Tryz.func50,Tryz.ntmps50
 go_wp2_with fail
 refine (rname_any ⟨s.toArray⟩ _ hz).mono ?_
 rintro e w' ⟨rfl,rfl⟩
 rw [show (⟨s.toArray⟩:ByteArray).data.toList=s by simp]
 cases hn:nameB s with
 | false =>
  have hr:chk fs s must=10:=by unfold chk;rw [hn];rfl
  have HR:=Lib.hid hr
  clear hr hn
  go_wp2
  go_ret
  exact ⟨by rw [HR.out];rfl,HB.out⟩
 | true =>
  cases must with
  | false =>
   have hr:chk fs s false=0:=by unfold chk;rw [hn];rfl
   have HR:=Lib.hid hr
   clear hr hn
   go_wp2
   go_ret
   exact ⟨by rw [HR.out];rfl,HB.out⟩
  | true =>
   have hr:chk fs s true=if (findL File.name s fs).isNone then 11 else 0:=by unfold chk;rw [hn];rfl
   have HR:=Lib.hid hr
   have HS2:=Lib.hid (fun b hb=>Nat.lt_of_lt_of_le (hS b hb) HB.out.size)
   clear hr hn
   go_wp2_with fail
   refine (rat_any pow _ fs S _ HS2.out H.out s).mono ?_
   rintro e w2 ⟨hb2,⟨i,hi,rfl,hf⟩|⟨rfl,hf⟩⟩
   ·have HB2:=Lib.hid (HB.out.trans (hb2.mono HB.out.size));have HF:=Lib.hid hf;clear hb2 hf
    go_wp2
    go_ret
    exact ⟨by rw [HR.out,HF.out];rfl,HB2.out⟩
   ·have HB2:=Lib.hid (HB.out.trans (hb2.mono HB.out.size));have HF:=Lib.hid hf;clear hb2 hf
    go_wp2
    go_ret
    exact ⟨by rw [HR.out,HF.out];rfl,HB2.out⟩
set_option maxRecDepth 20000 in
set_option maxHeartbeats 1000000 in
theorem rdraw_any (pow:Int) (hp:pow≤9223372036854775807) (A:Option Addr) (n c:Nat) (w:World) :
  Calls Tryz.prog 51 #[.agg #[.int .i64 pow,.slice A n c]] w fun e w'=>e=.returned (.tuple #[.agg #[.int .i64 (dec pow),.slice A n c],.int .i64 (if pow=0 then 13 else 0)])∧Below w.heap.size w w':=by
 rcases Int.lt_trichotomy pow 0 with h|h|h
 ·have h1:dec pow=pow:=by unfold dec;rw [if_neg (by omega)]
  rw [h1,if_neg (by omega)]
  clear h1
  go_enter Tryz.func51,Tryz.ntmps51
  go_wp2
  refine bodyPost_ret (v:=.tuple #[.agg #[.int .i64 pow,.slice A n c],.int .i64 0]) (by simp [results,Tryz.results51,go_sem]) rfl ⟨rfl,?_⟩
  exact box2_below w _ _
 ·subst h
  rw [if_pos rfl,show dec 0=0 from rfl]
  go_enter Tryz.func51,Tryz.ntmps51
  go_wp2
  refine bodyPost_ret (v:=.tuple #[.agg #[.int .i64 0,.slice A n c],.int .i64 13]) (by simp [results,Tryz.results51,go_sem]) rfl ⟨rfl,?_⟩
  exact box2_below w _ _
 ·have h1:dec pow=pow - 1:=by unfold dec;rw [if_pos (by omega)]
  rw [h1,if_neg (by omega)]
  clear h1
  go_enter Tryz.func51,Tryz.ntmps51
  go_wp2
  refine bodyPost_ret (v:=.tuple #[.agg #[.int .i64 (pow - 1),.slice A n c],.int .i64 0]) (by simp [results,Tryz.results51,go_sem]) rfl ⟨rfl,?_⟩
  exact box2_below w _ _
theorem dropL_snoc (s:List UInt8) (l:List File) (f:File):dropL File.name s (l ++ [f])=if f.name=s then dropL File.name s l else dropL File.name s l ++ [f]:=by
 unfold dropL
 rw [List.filter_append]
 split
 ·rename_i h;simp [h]
 ·rename_i h;simp [h]
theorem one_fcells (f:File) (A:Option Addr) (n c:Nat):∀ u∈fcells (f,.slice A n c),u.oneCell'=true:=by
 intro u hu
 simp [fcells] at hu
 rcases hu with rfl|rfl|rfl <;> rfl
theorem SegS.isSlice {S:Nat→Prop} {w:World} {u:Value} {xs:List Value} (h:SegS S w u xs):∃ A n c,u=.slice A n c:=by
 obtain ⟨A,c,h,-⟩:=h
 exact ⟨A,_,c,h⟩
theorem three_new (w:World) (f:File) (u:Value) (t:TypeId):∀ j x,(fcells (f,u))[j]? = some x→(w.alloc (.cells #[.string ⟨f.name.toArray⟩,u,.int .i64 f.safe] t)).cell? ⟨w.heap.size,j,none⟩=some x:=by
 intro j x h
 rw [World.cell?_alloc_mark]
 simpa [fcells] using h
theorem Rw.addOld {w:World} {S:Nat→Prop} {v:Value} {ls:List (File × Value)} {wr w3:World} (h:Rw w S v ls wr) (hS:∀ b,S b→b < w.heap.size) {f:File} {u:Value} (hu:SegS S wr u (byteCells f.data)) (o:Obj) {v':Value}
  (hown:w3.ownsRow w.heap.size 109 3 v' (ls.length+1) (ls.flatMap fcells ++ fcells (f,u))) (hg:(wr.alloc o).grownBy w3 v.ownBlock) (hat:v'.ownBlock=v.ownBlock∨v'.ownBlock=some (wr.heap.size+1)):Rw w S v' (ls ++ [(f,u)]) w3:=by
 have hz:=h.below.size
 refine (h.go hS (box_below wr o)).push hS (f:=f) (u:=u) (hu.keep fun b hb=>⟨⟨.inl hb,fun e=>?_⟩,(box_below wr o).block b (by have:=hS b hb;omega)⟩) hown hg (by simpa using hat)
 have h1:=(World.ownsRow.lt h.own b e).1
 have h2:=hS b hb
 omega
abbrev Boxed (w:World) (pow:Int) (A:Option Addr) (n c:Nat):World:=(w.alloc (.cells #[.int .i64 pow,.slice A n c] 33)).alloc (.cells #[.int .i64 0,.slice none 0 0] 33)
theorem boxed_size (w:World) (pow:Int) (A:Option Addr) (n c:Nat):(Boxed w pow A n c).heap.size=w.heap.size+2:=by simp [Boxed]
theorem boxed_below (w:World) (pow:Int) (A:Option Addr) (n c:Nat):Below w.heap.size w (Boxed w pow A n c):=box2_below w _ _
theorem boxed_0 (w:World) (pow:Int) (A:Option Addr) (n c:Nat):(Boxed w pow A n c).heap[w.heap.size]? = some (.cells #[.int .i64 pow,.slice A n c] 33 (0,0)):=by
 show ((w.alloc _).alloc _).heap[w.heap.size]? = _
 rw [Below.heap_alloc _ _ _ (by simp)]
 exact heap_alloc_new w _
theorem boxed_1 (w:World) (pow:Int) (A:Option Addr) (n c:Nat):(Boxed w pow A n c).heap[w.heap.size+1]? = some (.cells #[.int .i64 0,.slice none 0 0] 33 (0,0)):=by
 have:=heap_alloc_new (w.alloc (.cells #[.int .i64 pow,.slice A n c] 33)) (.cells #[.int .i64 0,.slice none 0 0] 33)
 simpa using this
theorem rfin {w wr w':World} {pow:Int} {A:Option Addr} {n c:Nat} {S:Nat→Prop} {u:Value} {ls:List (File × Value)} (hS:∀ b,S b→b < w.heap.size) (h:Rw (Boxed w pow A n c) S u ls wr) (hK:Kept (fun b=>b=w.heap.size∨b=w.heap.size+1) wr w') :
  RefS (New S w w') w' u (ls.map (·.1))∧Below w.heap.size w w':=by
 have hz:=boxed_size w pow A n c
 have hzr:=h.below.size
 have hbw:Below w.heap.size w wr:=(boxed_below w pow A n c).trans (h.below.mono (by omega))
 refine ⟨h.ref.keep fun b hb=>⟨?_,?_⟩,hbw.trans (hK.below hbw.size (fun k hk=>by omega))⟩
 ·rcases hb with hb | hb
  ·exact .inl hb
  ·exact .inr ⟨by omega,Nat.lt_of_lt_of_le hb.2 hK.size⟩
 ·rcases hb with hb | hb
  ·have:=hS b hb;exact hK.block b (by omega) (by omega)
  ·exact hK.block b hb.2 (by omega)
theorem boxed_cells {w wr:World} {pow:Int} {A:Option Addr} {n c:Nat} (hb:Below (Boxed w pow A n c).heap.size (Boxed w pow A n c) wr) :
  wr.cell? ⟨w.heap.size,0,none⟩=some (.int .i64 pow)∧wr.cell? ⟨w.heap.size,1,none⟩=some (.slice A n c)∧wr.frozen? ⟨w.heap.size,0,none⟩=false∧wr.frozen? ⟨w.heap.size,1,none⟩=false ∧
  wr.cell? ⟨w.heap.size+1,0,none⟩=some (.int .i64 0)∧wr.cell? ⟨w.heap.size+1,1,none⟩=some (.slice none 0 0)∧wr.frozen? ⟨w.heap.size+1,0,none⟩=false∧wr.frozen? ⟨w.heap.size+1,1,none⟩=false:=by
 have hz:=boxed_size w pow A n c
 have h0:=(hb.block w.heap.size (by omega)).trans (boxed_0 w pow A n c)
 have h1:=(hb.block (w.heap.size+1) (by omega)).trans (boxed_1 w pow A n c)
 simp [World.cell?,World.frozen?,h0,h1]
theorem RefS.there {S:Nat→Prop} {w wr:World} {A:Option Addr} {n c:Nat} {fs:List File} (h:RefS S w (.slice A n c) fs) (hS:∀ b,S b→b < w.heap.size) (hb:Below w.heap.size w wr) (k:Nat) (hk:k < fs.length) :
  ∃ b off Au nu cu,A=some ⟨b,off,none⟩∧b < w.heap.size∧wr.cell? ⟨b,off+k * 3,none⟩=some (.string ⟨fs[k].name.toArray⟩)∧wr.cell? ⟨b,off+k * 3+1,none⟩=some (.slice Au nu cu)∧wr.cell? ⟨b,off+k * 3+2,none⟩=some (.int .i64 fs[k].safe)∧SegS S wr (.slice Au nu cu) (byteCells fs[k].data):=by
 obtain ⟨b,off,rfl,hbS,u,g1,g2,g3,g4⟩:=(h.below hS hb).file k hk
 obtain ⟨Au,nu,cu,rfl⟩:=SegS.isSlice g4
 exact ⟨b,off,Au,nu,cu,rfl,hS b hbS,g1,g2,g3,g4⟩
set_option maxRecDepth 20000 in
set_option maxHeartbeats 1000000 in
theorem rwithout_any (pow:Int) (v:Value) (fs:List File) (S:Nat→Prop) (w:World) (hS:∀ b,S b→b < w.heap.size) (h:RefS S w v fs) (s:List UInt8) (hl:fs.length≤1000000) :
  Calls Tryz.prog 92 #[.agg #[.int .i64 pow,v],.string ⟨s.toArray⟩] w fun e w'=>∃ v',e=.returned (.agg #[.int .i64 pow,v'])∧RefS (New S w w') w' v' (dropL File.name s fs)∧Below w.heap.size w w':=by
 obtain ⟨A,c,rfl,hc,hm⟩:=h.form
 have H:=Lib.hid h;clear h
 have hS1:∀ b,S b→b < (Boxed w pow A fs.length c).heap.size:=fun b hb=>by have:=hS b hb;rw [boxed_size];omega
 have r0:=Rw.empty (S:=S) (Below.refl _ (Boxed w pow A fs.length c)) hS1
 rw [boxed_size] at r0
 have R0:=Lib.hid r0;clear r0
 have HS:=Lib.hid hS;have HS1:=Lib.hid hS1;clear hS hS1
 go_enter Tryz.func92,Tryz.ntmps92
 go_wp2
 go_loopw [5,6] (fun u i wr=>∃ (k:Nat) (ls:List (File × Value)),k≤fs.length∧i=.int .i64 k∧Hid (Rw (Boxed w pow A fs.length c) S u ls wr)∧Hid (ls.map (·.1)=dropL File.name s (fs.take k))∧ls.length≤k) (fun _ i _=>fs.length - (intOf i).toNat)
 case atStart=>exact ⟨0,[],by omega,rfl,R0,Lib.hid rfl,by simp⟩
 case round =>
  obtain ⟨k,ls,hk,rfl,HR,HE,hlk⟩:=hrel
  obtain ⟨x0,x1,x2,x3,x4,x5,x6,x7⟩:=boxed_cells HR.out.below
  obtain ⟨Ax,cx,hform⟩:=HR.out.form
  subst hform
  have hbw:Below w.heap.size w wr:=(boxed_below w pow A fs.length c).trans (HR.out.below.mono (by rw [boxed_size];omega))
  have HBW:=Lib.hid hbw
  by_cases hlt:k < fs.length
  ·obtain ⟨b,off,Au,nu,cu,rfl,hb,g0,g1,g2,g3⟩:=H.out.there HS.out hbw k hlt
   have HG3:=Lib.hid g3
   have hts:=List.take_succ_eq_append_getElem hlt
   have HTS:=Lib.hid hts
   clear g3 hts hbw
   generalize fs[k]=f at *
   obtain ⟨nm,data,safe⟩:=f
   simp only at g0 g2
   by_cases he:nm=s
   ·subst he
    go_wp2
    go_roundw
    case rel=>exact ⟨k+1,ls,by omega,by go_num,HR,Lib.hid (by rw [HTS.out,dropL_snoc,if_pos rfl];exact HE.out),by omega⟩
    case measure=>simp [intOf];omega
   ·have hbe:(nm == s)=false:=beq_eq_false_iff_ne.2 he
    have hbn:(!nm == s)=true:=by rw [hbe];rfl
    have hR2:=HR.out.go HS1.out (box_below wr (.cells #[.string ⟨nm.toArray⟩,.slice Au nu cu,.int .i64 safe] 109))
    have hown:=hR2.own
    have hcells:=three_new wr ⟨nm,data,safe⟩ (.slice Au nu cu) 109
    clear hR2
    have HNE:=Lib.hid he;clear he
    have hzw:=HBW.out.size
    go_wp2_with (at_builtin;refine wpList_app1 _ rfl _ _ _ rfl (Boxed w pow _ fs.length c).heap.size 109 3 48 fileE _ _ _ rfl hown wr.heap.size _ rfl ?c0 hcells (one_fcells _ _ _ _) ?c1 ?c2 ?c3 ?_)
    case c0=>rfl
    case c1=>omega
    case c2=>omega
    case c3=>have:=HR.out.below.size;simp at this ⊢;omega
    intro v3 w3 hown4 hg3 hat3
    have hpush:=HR.out.addOld HS1.out (f:=⟨nm,data,safe⟩) HG3.out _ (by rw [boxed_size];exact hown4) hg3 hat3
    have HPU:=Lib.hid hpush
    obtain ⟨A3,c3,hform3⟩:=hpush.form
    clear hpush hown4 hg3 hat3 hown hcells
    subst hform3
    go_wp2
    go_roundw
    case rel=>exact ⟨k+1,_,by omega,by go_num,HPU,Lib.hid (by rw [HTS.out,dropL_snoc,if_neg HNE.out,List.map_append,HE.out];rfl),by simp;omega⟩
    case measure=>simp [intOf];omega
  ·have hkl:k=fs.length:=by omega
   have HKL:=Lib.hid hkl;clear hkl hbw
   go_wp2
   refine bodyPost_ret (v:=.agg #[.int .i64 pow,.slice Ax ls.length cx]) (by simp [results,Tryz.results92,go_sem,x0,x1,x2,x3,x4,x5,x6,x7]) rfl ⟨_,rfl,?_⟩
   have:=rfin HS.out HR.out ((((Kept.refl _ wr).setCell (p:=⟨w.heap.size,1,none⟩) (.inl (.inl rfl)) (.slice Ax ls.length cx)).setCell (p:=⟨w.heap.size+1,0,none⟩) (.inl (.inr rfl)) (.int .i64 pow)).setCell (p:=⟨w.heap.size+1,1,none⟩) (.inl (.inr rfl)) (.slice Ax ls.length cx))
   rw [HE.out,HKL.out,List.take_length] at this
   exact this
abbrev Box3 (w:World) (pow:Int) (A:Option Addr) (n c:Nat) (x:File) (dv:Value):World :=
 ((w.alloc (.cells #[.int .i64 pow,.slice A n c] 33)).alloc (.cells #[.string ⟨x.name.toArray⟩,dv,.int .i64 x.safe] 109)).alloc (.cells #[.int .i64 0,.slice none 0 0] 33)
theorem box3_size (w:World) (pow:Int) (A:Option Addr) (n c:Nat) (x:File) (dv:Value):(Box3 w pow A n c x dv).heap.size=w.heap.size+3:=by simp [Box3]
theorem box3_below (w:World) (pow:Int) (A:Option Addr) (n c:Nat) (x:File) (dv:Value):Below w.heap.size w (Box3 w pow A n c x dv):=(box2_below w _ _).alloc (by simp;omega) _
theorem box3_heap (w:World) (pow:Int) (A:Option Addr) (n c:Nat) (x:File) (dv:Value):(Box3 w pow A n c x dv).heap[w.heap.size]? = some (.cells #[.int .i64 pow,.slice A n c] 33 (0,0)) ∧
  (Box3 w pow A n c x dv).heap[w.heap.size+1]? = some (.cells #[.string ⟨x.name.toArray⟩,dv,.int .i64 x.safe] 109 (0,0))∧(Box3 w pow A n c x dv).heap[w.heap.size+2]? = some (.cells #[.int .i64 0,.slice none 0 0] 33 (0,0)):=by
 refine ⟨?_,?_,?_⟩
 ·show (((w.alloc _).alloc _).alloc _).heap[w.heap.size]? = _
  rw [Below.heap_alloc _ _ _ (by simp;omega),Below.heap_alloc _ _ _ (by simp)]
  exact heap_alloc_new w _
 ·show (((w.alloc _).alloc _).alloc _).heap[w.heap.size+1]? = _
  rw [Below.heap_alloc _ _ _ (by simp)]
  have:=heap_alloc_new (w.alloc (.cells #[.int .i64 pow,.slice A n c] 33)) (.cells #[.string ⟨x.name.toArray⟩,dv,.int .i64 x.safe] 109)
  simpa using this
 ·have:=heap_alloc_new ((w.alloc (.cells #[.int .i64 pow,.slice A n c] 33)).alloc (.cells #[.string ⟨x.name.toArray⟩,dv,.int .i64 x.safe] 109)) (.cells #[.int .i64 0,.slice none 0 0] 33)
  simpa using this
structure WithI (w:World) (S:Nat→Prop) (pow:Int) (v2:Value) (x:File) (dv:Value) (gs:List File) (W3:World):Prop where
 below:Below w.heap.size w W3
 size:w.heap.size+3≤W3.heap.size
 h0:W3.heap[w.heap.size]? = some (.cells #[.int .i64 pow,v2] 33 (0,0))
 h1:W3.heap[w.heap.size+1]? = some (.cells #[.string ⟨x.name.toArray⟩,dv,.int .i64 x.safe] 109 (0,0))
 h2:W3.heap[w.heap.size+2]? = some (.cells #[.int .i64 0,.slice none 0 0] 33 (0,0))
 ref:RefS (fun b=>S b∨(w.heap.size+3≤b∧b < W3.heap.size)) W3 v2 gs
theorem WithI.mk' {w w2:World} {S:Nat→Prop} (hS:∀ b,S b→b < w.heap.size) {pow:Int} {A:Option Addr} {n c:Nat} {v2:Value} {x:File} {dv:Value} {gs:List File}
  (hb:Below (Box3 w pow A n c x dv).heap.size (Box3 w pow A n c x dv) w2) (hr:RefS (New S (Box3 w pow A n c x dv) w2) w2 v2 gs):WithI w S pow v2 x dv gs ((w2.setCell ⟨w.heap.size,0,none⟩ (.int .i64 pow)).setCell ⟨w.heap.size,1,none⟩ v2):=by
 have hz:=box3_size w pow A n c x dv
 have hzz:=hb.size
 obtain ⟨g0,g1,g2⟩:=box3_heap w pow A n c x dv
 have k0:=(hb.block w.heap.size (by omega)).trans g0
 have k1:=(hb.block (w.heap.size+1) (by omega)).trans g1
 have k2:=(hb.block (w.heap.size+2) (by omega)).trans g2
 have hK:Kept (fun b=>b=w.heap.size) w2 ((w2.setCell ⟨w.heap.size,0,none⟩ (.int .i64 pow)).setCell ⟨w.heap.size,1,none⟩ v2):=((Kept.refl (fun b=>b=w.heap.size) w2).setCell (p:=⟨w.heap.size,0,none⟩) (.inl rfl) _).setCell (p:=⟨w.heap.size,1,none⟩) (.inl rfl) _
 have hbw:Below w.heap.size w w2:=(box3_below w pow A n c x dv).trans (hb.mono (by omega))
 have hks:=hK.size
 refine ⟨hbw.trans (hK.below hbw.size (fun k hk=>by omega)),by omega,?_,(hK.block _ (by omega) (by omega)).trans k1,(hK.block _ (by omega) (by omega)).trans k2,hr.keep fun b hbb=>?_⟩
 ·have e:=two_setCell0 (x:=.int .i64 pow) k0
  exact two_setCell (x:=v2) e
 ·rcases hbb with h | h
  ·have:=hS b h;exact ⟨.inl h,hK.block b (by omega) (by omega)⟩
  ·exact ⟨.inr ⟨by omega,by omega⟩,hK.block b h.2 (by omega)⟩
theorem WithI.cells {w:World} {S:Nat→Prop} {pow:Int} {v2:Value} {x:File} {dv:Value} {gs:List File} {W3 wr:World} (h:WithI w S pow v2 x dv gs W3) (hb:Below W3.heap.size W3 wr) :
  (wr.cell? ⟨w.heap.size,0,none⟩=some (.int .i64 pow)∧wr.cell? ⟨w.heap.size,1,none⟩=some v2∧wr.frozen? ⟨w.heap.size,0,none⟩=false∧wr.frozen? ⟨w.heap.size,1,none⟩=false) ∧
  (wr.cell? ⟨w.heap.size+1,0,none⟩=some (.string ⟨x.name.toArray⟩)∧wr.cell? ⟨w.heap.size+1,1,none⟩=some dv∧wr.cell? ⟨w.heap.size+1,2,none⟩=some (.int .i64 x.safe)) ∧
  wr.cell? ⟨w.heap.size+2,0,none⟩=some (.int .i64 0)∧wr.cell? ⟨w.heap.size+2,1,none⟩=some (.slice none 0 0)∧wr.frozen? ⟨w.heap.size+2,0,none⟩=false∧wr.frozen? ⟨w.heap.size+2,1,none⟩=false:=by
 have hz:=h.size
 have h0:=(hb.block w.heap.size (by omega)).trans h.h0
 have h1:=(hb.block (w.heap.size+1) (by omega)).trans h.h1
 have h2:=(hb.block (w.heap.size+2) (by omega)).trans h.h2
 simp [World.cell?,World.frozen?,h0,h1,h2]
theorem WithI.fin {w wr w':World} {S:Nat→Prop} {pow:Int} {v2:Value} {x:File} {dv:Value} {gs:List File} {W3:World} {u:Value} {ls:List (File × Value)} (hS:∀ b,S b→b < w.heap.size) (h:WithI w S pow v2 x dv gs W3)
  (hr:Rw W3 (fun b=>S b∨(w.heap.size+3≤b∧b < W3.heap.size)) u ls wr) (hK:Kept (fun b=>b=w.heap.size∨b=w.heap.size+2) wr w'):RefS (New S w w') w' u (ls.map (·.1))∧Below w.heap.size w w':=by
 have hz:=h.size
 have hzr:=hr.below.size
 have hks:=hK.size
 have hbw:Below w.heap.size w wr:=h.below.trans (hr.below.mono (by omega))
 refine ⟨hr.ref.keep fun b hb=>?_,hbw.trans (hK.below hbw.size (fun k hk=>by omega))⟩
 rcases hb with (hb|hb)|hb
 ·have:=hS b hb;exact ⟨.inl hb,hK.block b (by omega) (by omega)⟩
 ·exact ⟨.inr ⟨by omega,by omega⟩,hK.block b (by omega) (by omega)⟩
 ·exact ⟨.inr ⟨by omega,by omega⟩,hK.block b (by omega) (by omega)⟩
theorem less_before:∀ a b:List UInt8,Op.bytesLess a b=bytesBefore a b
 | [],[]=>rfl
 | _ :: _,[]=>rfl
 | [],_ :: _=>rfl
 | a :: x,b :: y=>by simp only [Op.bytesLess,bytesBefore,less_before x y]
theorem with_cell {W3:World} {S:Nat→Prop} {v v':Value} {ls ls':List (File × Value)} {wa wb:World} (h:Rw W3 S v ls wa) (h':Rw W3 S v' ls' wb) {b:Nat} (hb:b < W3.heap.size) (o:Nat):wb.cell? ⟨b,o,none⟩=wa.cell? ⟨b,o,none⟩ :=
 (h'.below.cell (p:=⟨b,o,none⟩) hb).trans (h.below.cell (p:=⟨b,o,none⟩) hb).symm
theorem with_seg {W3:World} {S:Nat→Prop} (hS:∀ b,S b→b < W3.heap.size) {v v':Value} {ls ls':List (File × Value)} {wa wb:World} (h:Rw W3 S v ls wa) (h':Rw W3 S v' ls' wb) {u:Value} {xs:List Value} (hs:SegS S wa u xs):SegS S wb u xs :=
 hs.keep fun b hb=>⟨hb,(h'.below.block b (hS b hb)).trans (h.below.block b (hS b hb)).symm⟩
def PutI (x:File) (gs:List File) (k:Nat) (put:Bool) (acc:List File):Prop:=acc ++ (if put then gs.drop k else putL File.name x (gs.drop k))=putL File.name x gs
theorem PutI.zero (x:File) (gs:List File):PutI x gs 0 false []:=by simp [PutI]
theorem PutI.old {x:File} {gs:List File} {k:Nat} {acc:List File} (h:PutI x gs k true acc) (hk:k < gs.length):PutI x gs (k+1) true (acc ++ [gs[k]]):=by
 unfold PutI at *
 rw [←h,List.drop_eq_getElem_cons hk]
 simp
theorem PutI.now {x:File} {gs:List File} {k:Nat} {acc:List File} (h:PutI x gs k false acc) (hk:k < gs.length) (hb:bytesBefore x.name gs[k].name=true):PutI x gs (k+1) true (acc ++ [x] ++ [gs[k]]):=by
 unfold PutI at *
 rw [←h,List.drop_eq_getElem_cons hk]
 simp [putL,hb]
theorem PutI.later {x:File} {gs:List File} {k:Nat} {acc:List File} (h:PutI x gs k false acc) (hk:k < gs.length) (hb:bytesBefore x.name gs[k].name=false):PutI x gs (k+1) false (acc ++ [gs[k]]):=by
 unfold PutI at *
 rw [←h,List.drop_eq_getElem_cons hk]
 simp [putL,hb]
theorem PutI.done {x:File} {gs acc:List File} (h:PutI x gs gs.length true acc):acc=putL File.name x gs:=by
 unfold PutI at h
 simpa using h
theorem PutI.last {x:File} {gs acc:List File} (h:PutI x gs gs.length false acc):acc ++ [x]=putL File.name x gs:=by
 unfold PutI at h
 simpa [putL] using h
set_option maxRecDepth 20000 in
set_option maxHeartbeats 2000000 in
theorem rwith_any (pow:Int) (v:Value) (fs:List File) (S:Nat→Prop) (w:World) (hS:∀ b,S b→b < w.heap.size) (h:RefS S w v fs) (x:File) (dv:Value) (hd:SegS S w dv (byteCells x.data)) (hl:fs.length≤900000) :
  Calls Tryz.prog 53 #[.agg #[.int .i64 pow,v],.agg #[.string ⟨x.name.toArray⟩,dv,.int .i64 x.safe]] w fun e w'=>∃ v',e=.returned (.agg #[.int .i64 pow,v'])∧RefS (New S w w') w' v' (withL File.name x fs)∧Below w.heap.size w w':=by
 obtain ⟨A,c,rfl,hc,hm⟩:=h.form
 obtain ⟨Ad,nd,cd,rfl⟩:=SegS.isSlice hd
 have hS1:∀ b,S b→b < (Box3 w pow A fs.length c x (.slice Ad nd cd)).heap.size:=fun b hb=>by have:=hS b hb;rw [box3_size];omega
 have hwo:=rwithout_any pow _ fs S (Box3 w pow A fs.length c x (.slice Ad nd cd)) hS1 (h.below hS (box3_below w pow A fs.length c x _)) x.name (by omega)
 have hgl:(dropL File.name x.name fs).length≤fs.length:=List.length_filter_le _ _
 have hwL:withL File.name x fs=putL File.name x (dropL File.name x.name fs):=rfl
 have HWL:=Lib.hid hwL
 generalize dropL File.name x.name fs=gs at *
 have HWO:=Lib.hid hwo;clear hwo
 have HD:=Lib.hid hd;clear hd h
 have HS:=Lib.hid hS;clear hS hS1 hwL
 obtain ⟨nm,data,safe⟩:=x
 simp only at *
 go_enter Tryz.func53,Tryz.ntmps53
 go_wp2_with fail
 refine HWO.out.mono ?_
 rintro e w2 ⟨v2,rfl,hr2,hb2⟩
 have hw3:=WithI.mk' HS.out hb2 hr2
 obtain ⟨A2,c2,rfl,hc2,hm2⟩:=hr2.form
 have HI:=Lib.hid hw3
 have hk:=box3_heap w pow A fs.length c ⟨nm,data,safe⟩ (.slice Ad nd cd)
 have hkz:=box3_size w pow A fs.length c ⟨nm,data,safe⟩ (.slice Ad nd cd)
 have k0:=(hb2.block w.heap.size (by omega)).trans hk.1
 have z0:w2.cell? ⟨w.heap.size,0,none⟩=some (.int .i64 pow):=by simp [World.cell?,k0]
 have z1:w2.cell? ⟨w.heap.size,1,none⟩=some (.slice A fs.length c):=by simp [World.cell?,k0]
 have z2:w2.frozen? ⟨w.heap.size,0,none⟩=false:=by simp [World.frozen?,k0]
 have z3:w2.frozen? ⟨w.heap.size,1,none⟩=false:=by simp [World.frozen?,k0]
 clear hw3 hr2 hb2 HWO hk hkz k0
 go_wp2
 obtain ⟨W3,hW3⟩:∃ W3,W3=(w2.setCell ⟨w.heap.size,0,none⟩ (.int .i64 pow)).setCell ⟨w.heap.size,1,none⟩ (.slice A2 gs.length c2):=⟨_,rfl⟩
 have hz3:w2.heap.size=W3.heap.size:=by rw [hW3];simp
 rw [←hW3] at HI ⊢
 rw [hz3]
 clear z0 z1 z2 z3 hW3 hz3
 have hS2:∀ b,(S b∨(w.heap.size+3≤b∧b < W3.heap.size))→b < W3.heap.size:=fun b hb=>by
  have:=HI.out.size
  rcases hb with h|h
  ·have:=HS.out b h;omega
  ·exact h.2
 have R0:=Lib.hid (Rw.empty (S:=fun b=>S b∨(w.heap.size+3≤b∧b < W3.heap.size)) (Below.refl _ W3) hS2)
 have HS2:=Lib.hid hS2;clear hS2
 go_loopw [5,6,7] (fun u pt i wr=>∃ (k:Nat) (put:Bool) (ls:List (File × Value)),k≤gs.length∧i=.int .i64 k∧pt=.bool put∧Hid (Rw W3 (fun b=>S b∨(w.heap.size+3≤b∧b < W3.heap.size)) u ls wr)∧Hid (PutI ⟨nm,data,safe⟩ gs k put (ls.map (·.1)))∧ls.length≤2 * k) (fun _ _ i _=>gs.length - (intOf i).toNat)
 case atStart=>exact ⟨0,false,[],by omega,rfl,rfl,R0,Lib.hid (PutI.zero _ _),by simp⟩
 case round =>
  obtain ⟨k,put,ls,hk,rfl,rfl,HR,HP,hlk⟩:=hrel
  obtain ⟨⟨x0,x1,x2,x3⟩,⟨y0,y1,y2⟩,x4,x5,x6,x7⟩:=HI.out.cells HR.out.below
  simp only at y0 y2
  obtain ⟨Ax,cx,hform⟩:=HR.out.form
  subst hform
  have hzr:=HR.out.below.size
  have hz3:=HI.out.size
  have hD:SegS (fun b=>S b∨(w.heap.size+3≤b∧b < W3.heap.size)) wr (.slice Ad nd cd) (byteCells data):=HD.out.keep fun b hb=>⟨.inl hb,by
   have:=HS.out b hb
   rw [HR.out.below.block b (by omega),HI.out.below.block b this]⟩
  have HDD:=Lib.hid hD;clear hD
  by_cases hlt:k < gs.length
  ·obtain ⟨b,off,Au,nu,cu,rfl,hb,g0,g1,g2,g3⟩:=HI.out.ref.there HS2.out HR.out.below k hlt
   have HG3:=Lib.hid g3
   clear g3
   obtain ⟨f,hf⟩:∃ f,gs[k]=f:=⟨_,rfl⟩
   rw [hf] at g0 g2 HG3
   have HF:=Lib.hid hf;clear hf
   obtain ⟨nf,df,sf⟩:=f
   simp only at g0 g2 HG3
   cases put with
   | true =>
    go_wp2_with fail
    go_quiet (fail)
    have HRq:=Lib.hid (HR.out.go HS2.out (below_drewN (Below.refl _ wr) nq))
    have HGq:Hid (SegS (fun b=>S b∨(w.heap.size+3≤b∧b < W3.heap.size)) (wr.drewN nq) (.slice Au nu cu) (byteCells df)):=HG3
    have HDq:Hid (SegS (fun b=>S b∨(w.heap.size+3≤b∧b < W3.heap.size)) (wr.drewN nq) (.slice Ad nd cd) (byteCells data)):=HDD
    have HZq:Hid (∀ o,(wr.drewN nq).cell? ⟨b,o,none⟩=wr.cell? ⟨b,o,none⟩):=Lib.hid (fun o=>rfl)
    clear HR HG3 HDD x0 x1 x2 x3 x4 x5 x6 x7 y0 y1 y2
    rw [←HZq.out] at g0 g1 g2
    clear HZq
    generalize wr.drewN nq=wq at *
    obtain ⟨⟨x0,x1,x2,x3⟩,⟨y0,y1,y2⟩,x4,x5,x6,x7⟩:=HI.out.cells HRq.out.below
    simp only at y0 y2
    have hzq:=HRq.out.below.size
    have hown:=(HRq.out.go HS2.out (box_below wq (.cells #[.string ⟨nf.toArray⟩,.slice Au nu cu,.int .i64 sf] 109))).own
    have hcells:=three_new wq ⟨nf,df,sf⟩ (.slice Au nu cu) 109
    go_wp2_with (at_builtin;refine wpList_app1 _ rfl _ _ _ rfl W3.heap.size 109 3 48 fileE _ _ _ rfl hown wq.heap.size _ rfl ?c0 hcells (one_fcells _ _ _ _) ?c1 ?c2 ?c3 ?_)
    case c0=>rfl
    case c1=>first | omega | (simp;omega)
    case c2=>first | omega | (simp;omega)
    case c3=>first | omega | (simp;omega)
    intro v3 w3 hown4 hg3 hat3
    have hpush:=HRq.out.addOld HS2.out (f:=⟨nf,df,sf⟩) HGq.out _ hown4 hg3 hat3
    obtain ⟨lt,hlt⟩:∃ l,l=ls ++ [(⟨nf,df,sf⟩,.slice Au nu cu)]:=⟨_,rfl⟩
    rw [←hlt] at hpush
    have hll:lt.length≤ls.length+1:=by rw [hlt];simp
    have HLT:=Lib.hid hlt;clear hlt
    have HPU:=Lib.hid hpush
    obtain ⟨A3,c3,hform3⟩:=hpush.form
    clear hpush hown4 hg3 hat3 hown hcells x0 x1 x2 x3 x4 x5 x6 x7 y0 y1 y2 hzq
    subst hform3
    go_wp2
    go_roundw
    case rel=>exact ⟨k+1,true,_,by omega,by go_num,rfl,HPU,Lib.hid (by have:=HP.out.old hlt;rw [HF.out] at this;rw [HLT.out];simpa using this),by omega⟩
    case measure=>simp [intOf];omega
   | false =>
    cases hbl:bytesBefore nm nf with
    | false =>
     have hbl':Op.bytesLess nm nf=false:=by rw [less_before];exact hbl
     have HBL:=Lib.hid hbl;clear hbl
     go_wp2_with fail
     go_quiet (fail)
     have HRq:=Lib.hid (HR.out.go HS2.out (below_drewN (Below.refl _ wr) nq))
     have HGq:Hid (SegS (fun b=>S b∨(w.heap.size+3≤b∧b < W3.heap.size)) (wr.drewN nq) (.slice Au nu cu) (byteCells df)):=HG3
     have HDq:Hid (SegS (fun b=>S b∨(w.heap.size+3≤b∧b < W3.heap.size)) (wr.drewN nq) (.slice Ad nd cd) (byteCells data)):=HDD
     have HZq:Hid (∀ o,(wr.drewN nq).cell? ⟨b,o,none⟩=wr.cell? ⟨b,o,none⟩):=Lib.hid (fun o=>rfl)
     clear HR HG3 HDD x0 x1 x2 x3 x4 x5 x6 x7 y0 y1 y2
     rw [←HZq.out] at g0 g1 g2
     clear HZq
     generalize wr.drewN nq=wq at *
     obtain ⟨⟨x0,x1,x2,x3⟩,⟨y0,y1,y2⟩,x4,x5,x6,x7⟩:=HI.out.cells HRq.out.below
     simp only at y0 y2
     have hzq:=HRq.out.below.size
     have hown:=(HRq.out.go HS2.out (box_below wq (.cells #[.string ⟨nf.toArray⟩,.slice Au nu cu,.int .i64 sf] 109))).own
     have hcells:=three_new wq ⟨nf,df,sf⟩ (.slice Au nu cu) 109
     go_wp2_with (at_builtin;refine wpList_app1 _ rfl _ _ _ rfl W3.heap.size 109 3 48 fileE _ _ _ rfl hown wq.heap.size _ rfl ?c0 hcells (one_fcells _ _ _ _) ?c1 ?c2 ?c3 ?_)
     case c0=>rfl
     case c1=>first | omega | (simp;omega)
     case c2=>first | omega | (simp;omega)
     case c3=>first | omega | (simp;omega)
     intro v3 w3 hown4 hg3 hat3
     have hpush:=HRq.out.addOld HS2.out (f:=⟨nf,df,sf⟩) HGq.out _ hown4 hg3 hat3
     obtain ⟨lt,hlt⟩:∃ l,l=ls ++ [(⟨nf,df,sf⟩,.slice Au nu cu)]:=⟨_,rfl⟩
     rw [←hlt] at hpush
     have hll:lt.length≤ls.length+1:=by rw [hlt];simp
     have HLT:=Lib.hid hlt;clear hlt
     have HPU:=Lib.hid hpush
     obtain ⟨A3,c3,hform3⟩:=hpush.form
     clear hpush hown4 hg3 hat3 hown hcells x0 x1 x2 x3 x4 x5 x6 x7 y0 y1 y2 hzq
     subst hform3
     go_wp2
     go_roundw
     case rel=>exact ⟨k+1,false,_,by omega,by go_num,rfl,HPU,Lib.hid (by have:=HP.out.later hlt (by rw [HF.out];exact HBL.out);rw [HF.out] at this;rw [HLT.out];simpa using this),by omega⟩
     case measure=>simp [intOf];omega
    | true =>
     have hbl':Op.bytesLess nm nf=true:=by rw [less_before];exact hbl
     have HBL:=Lib.hid hbl;clear hbl
     go_wp2_with fail
     go_quiet (fail)
     have HRq:=Lib.hid (HR.out.go HS2.out (below_drewN (Below.refl _ wr) nq))
     have HGq:Hid (SegS (fun b=>S b∨(w.heap.size+3≤b∧b < W3.heap.size)) (wr.drewN nq) (.slice Au nu cu) (byteCells df)):=HG3
     have HDq:Hid (SegS (fun b=>S b∨(w.heap.size+3≤b∧b < W3.heap.size)) (wr.drewN nq) (.slice Ad nd cd) (byteCells data)):=HDD
     have HZq:Hid (∀ o,(wr.drewN nq).cell? ⟨b,o,none⟩=wr.cell? ⟨b,o,none⟩):=Lib.hid (fun o=>rfl)
     clear HR HG3 HDD x0 x1 x2 x3 x4 x5 x6 x7 y0 y1 y2
     rw [←HZq.out] at g0 g1 g2
     clear HZq
     generalize wr.drewN nq=wq at *
     obtain ⟨⟨x0,x1,x2,x3⟩,⟨y0,y1,y2⟩,x4,x5,x6,x7⟩:=HI.out.cells HRq.out.below
     simp only at y0 y2
     have hzq:=HRq.out.below.size
     have hown:=(HRq.out.go HS2.out (box_below wq (.cells #[.string ⟨nm.toArray⟩,.slice Ad nd cd,.int .i64 safe] 109))).own
     have hcells:=three_new wq ⟨nm,data,safe⟩ (.slice Ad nd cd) 109
     go_wp2_with (at_builtin;refine wpList_app1 _ rfl _ _ _ rfl W3.heap.size 109 3 48 fileE _ _ _ rfl hown wq.heap.size _ rfl ?c0 hcells (one_fcells _ _ _ _) ?c1 ?c2 ?c3 ?_)
     case c0=>rfl
     case c1=>first | omega | (simp;omega)
     case c2=>first | omega | (simp;omega)
     case c3=>first | omega | (simp;omega)
     intro v3a w3a hown4 hg3 hat3
     have hpush:=HRq.out.addOld HS2.out (f:=⟨nm,data,safe⟩) HDq.out _ hown4 hg3 hat3
     obtain ⟨lta,hlta⟩:∃ l,l=ls ++ [(⟨nm,data,safe⟩,.slice Ad nd cd)]:=⟨_,rfl⟩
     rw [←hlta] at hpush
     have hlla:lta.length≤ls.length+1:=by rw [hlta];simp
     have HLTa:=Lib.hid hlta;clear hlta
     have HPA:=Lib.hid hpush
     obtain ⟨A3a,c3a,hform3⟩:=hpush.form
     clear hpush hown4 hg3 hat3 hown hcells x0 x1 x2 x3 x4 x5 x6 x7 y0 y1 y2 hzq
     subst hform3
     have hk2:∀ o,w3a.cell? ⟨b,o,none⟩=wq.cell? ⟨b,o,none⟩:=fun o=>with_cell HRq.out HPA.out hb o
     rw [←hk2] at g0 g1 g2
     have HGa:=Lib.hid (with_seg HS2.out HRq.out HPA.out HGq.out)
     clear hk2 HGq
     obtain ⟨⟨x0,x1,x2,x3⟩,⟨y0,y1,y2⟩,x4,x5,x6,x7⟩:=HI.out.cells HPA.out.below
     simp only at y0 y2
     have hzq:=HPA.out.below.size
     have hown:=(HPA.out.go HS2.out (box_below w3a (.cells #[.string ⟨nf.toArray⟩,.slice Au nu cu,.int .i64 sf] 109))).own
     have hcells:=three_new w3a ⟨nf,df,sf⟩ (.slice Au nu cu) 109
     go_wp2_with (at_builtin;refine wpList_app1 _ rfl _ _ _ rfl W3.heap.size 109 3 48 fileE _ _ _ rfl hown w3a.heap.size _ rfl ?c0 hcells (one_fcells _ _ _ _) ?c1 ?c2 ?c3 ?_)
     case c0=>rfl
     case c1=>first | omega | (simp;omega)
     case c2=>first | omega | (simp;omega)
     case c3=>first | omega | (simp;omega)
     intro v3b w3b hown4 hg3 hat3
     have hpush:=HPA.out.addOld HS2.out (f:=⟨nf,df,sf⟩) HGa.out _ hown4 hg3 hat3
     obtain ⟨ltb,hltb⟩:∃ l,l=lta ++ [(⟨nf,df,sf⟩,.slice Au nu cu)]:=⟨_,rfl⟩
     rw [←hltb] at hpush
     have hllb:ltb.length≤lta.length+1:=by rw [hltb];simp
     have HLTb:=Lib.hid hltb;clear hltb
     have HPU:=Lib.hid hpush
     obtain ⟨A3b,c3b,hform3⟩:=hpush.form
     clear hpush hown4 hg3 hat3 hown hcells x0 x1 x2 x3 x4 x5 x6 x7 y0 y1 y2 hzq
     subst hform3
     go_wp2
     go_roundw
     case rel=>exact ⟨k+1,true,_,by omega,by go_num,rfl,HPU,Lib.hid (by have:=HP.out.now hlt (by rw [HF.out];exact HBL.out);rw [HF.out] at this;rw [HLTb.out,HLTa.out];simpa using this),by omega⟩
     case measure=>simp [intOf];omega
  ·have hkl:k=gs.length:=by omega
   subst hkl
   cases put with
   | true =>
    have HE:=Lib.hid HP.out.done
    go_wp2
    refine bodyPost_ret (v:=.agg #[.int .i64 pow,.slice Ax ls.length cx]) (by simp [results,Tryz.results53,go_sem,x0,x1,x2,x3,x4,x5,x6,x7]) rfl ⟨_,rfl,?_⟩
    have:=HI.out.fin HS.out HR.out ((((Kept.refl _ wr).setCell (p:=⟨w.heap.size,1,none⟩) (.inl (.inl rfl)) (.slice Ax ls.length cx)).setCell (p:=⟨w.heap.size+2,0,none⟩) (.inl (.inr rfl)) (.int .i64 pow)).setCell (p:=⟨w.heap.size+2,1,none⟩) (.inl (.inr rfl)) (.slice Ax ls.length cx))
    rw [HE.out] at this
    rw [HWL.out]
    exact this
   | false =>
    have HE:=Lib.hid HP.out.last
    clear x0 x1 x2 x3 x4 x5 x6 x7 y0 y1 y2
    obtain ⟨⟨x0,x1,x2,x3⟩,⟨y0,y1,y2⟩,x4,x5,x6,x7⟩:=HI.out.cells HR.out.below
    simp only at y0 y2
    have hzq:=HR.out.below.size
    have hown:=(HR.out.go HS2.out (box_below wr (.cells #[.string ⟨nm.toArray⟩,.slice Ad nd cd,.int .i64 safe] 109))).own
    have hcells:=three_new wr ⟨nm,data,safe⟩ (.slice Ad nd cd) 109
    go_wp2_with (at_builtin;refine wpList_app1 _ rfl _ _ _ rfl W3.heap.size 109 3 48 fileE _ _ _ rfl hown wr.heap.size _ rfl ?c0 hcells (one_fcells _ _ _ _) ?c1 ?c2 ?c3 ?_)
    case c0=>rfl
    case c1=>first | omega | (simp;omega)
    case c2=>first | omega | (simp;omega)
    case c3=>first | omega | (simp;omega)
    intro v3 w3 hown4 hg3 hat3
    have hpush:=HR.out.addOld HS2.out (f:=⟨nm,data,safe⟩) HDD.out _ hown4 hg3 hat3
    obtain ⟨lt,hlt⟩:∃ l,l=ls ++ [(⟨nm,data,safe⟩,.slice Ad nd cd)]:=⟨_,rfl⟩
    rw [←hlt] at hpush
    have hll:lt.length≤ls.length+1:=by rw [hlt];simp
    have HLT:=Lib.hid hlt;clear hlt
    have HPU:=Lib.hid hpush
    obtain ⟨A3,c3,hform3⟩:=hpush.form
    clear hpush hown4 hg3 hat3 hown hcells x0 x1 x2 x3 x4 x5 x6 x7 y0 y1 y2 hzq
    subst hform3
    obtain ⟨⟨x0,x1,x2,x3⟩,⟨y0,y1,y2⟩,x4,x5,x6,x7⟩:=HI.out.cells HPU.out.below
    go_wp2
    refine bodyPost_ret (v:=.agg #[.int .i64 pow,.slice A3 lt.length c3]) (by simp [results,Tryz.results53,go_sem,x0,x1,x2,x3,x4,x5,x6,x7]) rfl ⟨_,rfl,?_⟩
    have:=HI.out.fin HS.out HPU.out ((((Kept.refl _ w3).setCell (p:=⟨w.heap.size,1,none⟩) (.inl (.inl rfl)) (.slice A3 lt.length c3)).setCell (p:=⟨w.heap.size+2,0,none⟩) (.inl (.inr rfl)) (.int .i64 pow)).setCell (p:=⟨w.heap.size+2,1,none⟩) (.inl (.inr rfl)) (.slice A3 lt.length c3))
    have e:lt.map (·.1)=ls.map (·.1) ++ [⟨nm,data,safe⟩]:=by rw [HLT.out,List.map_append];rfl
    rw [e,HE.out] at this
    rw [HWL.out]
    exact this
structure BoxI (w:World) (pow:Int) (v:Value) (W:World):Prop where
 below:Below w.heap.size w W
 size:w.heap.size+2≤W.heap.size
 h0:W.heap[w.heap.size]? = some (.cells #[.int .i64 pow,v] 33 (0,0))
 h1:W.heap[w.heap.size+1]? = some (.cells #[.int .i64 0,.slice none 0 0] 33 (0,0))
theorem BoxI.start (w:World) (pow:Int) (A:Option Addr) (n c:Nat):BoxI w pow (.slice A n c) (Boxed w pow A n c) :=
 ⟨boxed_below w pow A n c,by rw [boxed_size];omega,boxed_0 w pow A n c,boxed_1 w pow A n c⟩
theorem BoxI.go {w W W':World} {pow:Int} {v:Value} (h:BoxI w pow v W) (hb:Below W.heap.size W W'):BoxI w pow v W':=by
 have hz:=h.size
 have hzz:=hb.size
 exact ⟨h.below.trans (hb.mono (by omega)),by omega,(hb.block _ (by omega)).trans h.h0,(hb.block _ (by omega)).trans h.h1⟩
theorem BoxI.keep {w W W':World} {pow:Int} {v:Value} (h:BoxI w pow v W) {F:Nat→Prop} (hk:Kept F W W') (hF:∀ k,F k→w.heap.size+2≤k):BoxI w pow v W':=by
 have hz:=h.size
 have hzz:=hk.size
 exact ⟨h.below.trans (hk.below (by omega) (fun k hf=>by have:=hF k hf;omega)),by omega,(hk.block _ (by omega) (fun hf=>by have:=hF _ hf;omega)).trans h.h0,(hk.block _ (by omega) (fun hf=>by have:=hF _ hf;omega)).trans h.h1⟩
theorem BoxI.store {w W:World} {pow:Int} {v:Value} (h:BoxI w pow v W) (pow':Int) (v':Value):BoxI w pow' v' ((W.setCell ⟨w.heap.size,0,none⟩ (.int .i64 pow')).setCell ⟨w.heap.size,1,none⟩ v'):=by
 have hz:=h.size
 have hK:Kept (fun b=>b=w.heap.size) W ((W.setCell ⟨w.heap.size,0,none⟩ (.int .i64 pow')).setCell ⟨w.heap.size,1,none⟩ v'):=((Kept.refl (fun b=>b=w.heap.size) W).setCell (p:=⟨w.heap.size,0,none⟩) (.inl rfl) _).setCell (p:=⟨w.heap.size,1,none⟩) (.inl rfl) _
 have hks:=hK.size
 exact ⟨h.below.trans (hK.below (by omega) (fun k hk=>by omega)),by omega,two_setCell (two_setCell0 h.h0),(hK.block _ (by omega) (by omega)).trans h.h1⟩
theorem BoxI.cells {w W:World} {pow:Int} {v:Value} (h:BoxI w pow v W) :
  W.cell? ⟨w.heap.size,0,none⟩=some (.int .i64 pow)∧W.cell? ⟨w.heap.size,1,none⟩=some v∧W.frozen? ⟨w.heap.size,0,none⟩=false∧W.frozen? ⟨w.heap.size,1,none⟩=false ∧
  W.cell? ⟨w.heap.size+1,0,none⟩=some (.int .i64 0)∧W.cell? ⟨w.heap.size+1,1,none⟩=some (.slice none 0 0)∧W.frozen? ⟨w.heap.size+1,0,none⟩=false∧W.frozen? ⟨w.heap.size+1,1,none⟩=false:=by
 have h0:=h.h0
 have h1:=h.h1
 simp [World.cell?,World.frozen?,h0,h1]
def Mid (S:Nat→Prop) (w W:World) (b:Nat):Prop:=S b∨(w.heap.size+2≤b∧b < W.heap.size)
theorem BoxI.done {w W w':World} {pow:Int} {v u:Value} {S:Nat→Prop} {fs:List File} (hS:∀ b,S b→b < w.heap.size) (h:BoxI w pow v W) (hr:RefS (Mid S w W) W u fs) (hK:Kept (fun b=>b=w.heap.size∨b=w.heap.size+1) W w') :
  RefS (New S w w') w' u fs∧Below w.heap.size w w':=by
 have hz:=h.size
 have hks:=hK.size
 refine ⟨hr.keep fun b hb=>?_,h.below.trans (hK.below (by omega) (fun k hk=>by omega))⟩
 rcases hb with hb|hb
 ·have:=hS b hb;exact ⟨.inl hb,hK.block b (by omega) (by omega)⟩
 ·exact ⟨.inr ⟨by omega,by omega⟩,hK.block b (by omega) (by omega)⟩
theorem BoxI.old {w W:World} {pow:Int} {v u:Value} {S:Nat→Prop} {fs:List File} (hS:∀ b,S b→b < w.heap.size) (h:BoxI w pow v W) (hr:RefS S w u fs):RefS S W u fs:=hr.keep fun b hb=>⟨hb,h.below.block b (hS b hb)⟩
theorem RefS.mid {S:Nat→Prop} {w W:World} {v:Value} {fs:List File} (h:RefS S W v fs):RefS (Mid S w W) W v fs:=h.sub fun b hb=>.inl hb
theorem RefS.midN {S:Nat→Prop} {w W W':World} {v:Value} {fs:List File} (h:RefS (New S W W') W' v fs) (hz:w.heap.size+2≤W.heap.size):RefS (Mid S w W') W' v fs:=h.sub fun b hb=>by
 rcases hb with hb|hb
 ·exact .inl hb
 ·exact .inr ⟨by omega,hb.2⟩
def RPost (w:World) (S:Nat→Prop) (r:St × Int) (e:Ending) (w':World):Prop :=
 ∃ v',e=.returned (.tuple #[.agg #[.int .i64 r.1.power,v'],.int .i64 r.2])∧RefS (New S w w') w' v' r.1.files∧Below w.heap.size w w'
theorem chk_err {st:St} {s:List UInt8} {e:Int} (h:stFind st s=.error e):chk st.files s true=e∧e≠0:=by
 refine ⟨?_,find_err h⟩
 unfold stFind at h
 unfold chk
 split at h
 ·rename_i hn
  rw [if_pos hn]
  split at h
  ·cases h
  ·rename_i hf;cases h;rw [hf];rfl
 ·rename_i hn;cases h;rw [if_neg hn]
theorem chk_ok {st:St} {s:List UInt8} {f:File} (h:stFind st s=.ok f):chk st.files s true=0∧findL File.name s st.files=some f:=by
 unfold stFind at h
 unfold chk
 split at h
 ·rename_i hn
  rw [if_pos hn]
  split at h
  ·rename_i hf;cases h;rw [hf];exact ⟨rfl,rfl⟩
  ·cases h
 ·cases h
theorem doSt_down {st:St} {fs:List File} (h:st.power=0):doSt st fs=(st,13):=by unfold doSt;rw [if_pos h]
theorem doSt_do {st:St} {fs:List File} (h:¬ st.power=0):doSt st fs=(⟨dec st.power,fs⟩,0):=by unfold doSt;rw [if_neg h]
set_option maxRecDepth 20000 in
set_option maxHeartbeats 2000000 in
theorem rremove_any (st:St) (hp:st.power≤9223372036854775807) (v:Value) (S:Nat→Prop) (w:World) (hS:∀ b,S b→b < w.heap.size) (h:RefS S w v st.files) (s:List UInt8) (hs:s.length≤9223372036854775807) (hl:st.files.length≤900000) :
  Calls Tryz.prog 96 #[.agg #[.int .i64 st.power,v],.string ⟨s.toArray⟩] w (RPost w S (stRemove st s)):=by
 obtain ⟨pow,fs⟩:=st
 simp only at hp h hl ⊢
 obtain ⟨A,c,rfl,hc,hm⟩:=h.form
 have H:=Lib.hid h;clear h
 have HS:=Lib.hid hS;clear hS
 have b1:=BoxI.start w pow A fs.length c
 have HS1:Hid (∀ b,S b→b < (Boxed w pow A fs.length c).heap.size):=Lib.hid fun b hb=>by have:=HS.out b hb;rw [boxed_size];omega
 have hck:=rcheck_any pow _ fs S _ HS1.out (b1.old HS.out H.out) s hs true
 have B1:=Lib.hid b1;have HCK:=Lib.hid hck;clear b1 hck
 cases hf:stFind ⟨pow,fs⟩ s with
 | error er =>
  obtain ⟨e1,e2⟩:=chk_err hf
  have HST:=Lib.hid (stRemove_err hf)
  simp only at e1
  rw [e1] at HCK
  clear e1 hf
  go_enter Tryz.func96,Tryz.ntmps96
  go_wp2_with fail
  refine HCK.out.mono ?_
  rintro e w2 ⟨rfl,hb2⟩
  have B2:=Lib.hid (B1.out.go hb2)
  obtain ⟨x0,x1,x2,x3,x4,x5,x6,x7⟩:=B2.out.cells
  clear hb2 HCK B1
  go_wp2
  refine bodyPost_ret (v:=.tuple #[.agg #[.int .i64 pow,.slice A fs.length c],.int .i64 er]) (by simp [results,Tryz.results96,go_sem,x0,x1,x2,x3,x4,x5,x6,x7]) rfl ?_
  rw [HST.out]
  exact ⟨_,rfl,B2.out.done HS.out (RefS.mid (B2.out.old HS.out H.out)) (((Kept.refl _ w2).setCell (p:=⟨w.heap.size+1,0,none⟩) (.inl (.inr rfl)) _).setCell (p:=⟨w.heap.size+1,1,none⟩) (.inl (.inr rfl)) _)⟩
 | ok f =>
  obtain ⟨e1,e2⟩:=chk_ok hf
  have HST:=Lib.hid (stRemove_ok hf)
  simp only at e1
  rw [e1] at HCK
  clear e1 e2 hf
  go_enter Tryz.func96,Tryz.ntmps96
  go_wp2_with fail
  refine HCK.out.mono ?_
  rintro e w2 ⟨rfl,hb2⟩
  have B2:=Lib.hid (B1.out.go hb2)
  obtain ⟨x0,x1,x2,x3,x4,x5,x6,x7⟩:=B2.out.cells
  clear hb2 HCK B1
  go_wp2_with fail
  refine (rdraw_any pow hp A fs.length c w2).mono ?_
  rintro e w3 ⟨rfl,hb3⟩
  have B3:=Lib.hid (B2.out.go hb3)
  clear x0 x1 x2 x3 x4 x5 x6 x7 hb3 B2
  obtain ⟨x0,x1,x2,x3,x4,x5,x6,x7⟩:=B3.out.cells
  by_cases hp0:pow=0
  ·subst hp0
   have HD:=Lib.hid (doSt_down (st:=⟨0,fs⟩) (fs:=dropL File.name s fs) rfl)
   rw [if_pos rfl,show dec 0=0 from rfl]
   go_wp2
   refine bodyPost_ret (v:=.tuple #[.agg #[.int .i64 0,.slice A fs.length c],.int .i64 13]) (by simp [results,Tryz.results96,go_sem,x0,x1,x2,x3,x4,x5,x6,x7]) rfl ?_
   rw [HST.out,HD.out]
   exact ⟨_,rfl,B3.out.done HS.out (RefS.mid (B3.out.old HS.out H.out)) (((((Kept.refl _ w3).setCell (p:=⟨w.heap.size,0,none⟩) (.inl (.inl rfl)) _).setCell (p:=⟨w.heap.size,1,none⟩) (.inl (.inl rfl)) _).setCell (p:=⟨w.heap.size+1,0,none⟩) (.inl (.inr rfl)) _).setCell (p:=⟨w.heap.size+1,1,none⟩) (.inl (.inr rfl)) _)⟩
  ·have HD:=Lib.hid (doSt_do (st:=⟨pow,fs⟩) (fs:=dropL File.name s fs) hp0)
   rw [if_neg hp0]
   clear hp0
   have b4:=B3.out.store (dec pow) (.slice A fs.length c)
   have hwo:=rwithout_any (dec pow) _ fs S _ (fun b hb=>by have:=HS.out b hb;have:=b4.size;omega) (b4.old HS.out H.out) s (by omega)
   have HWO:=Lib.hid hwo;have B4:=Lib.hid b4;clear hwo b4
   generalize dec pow=pd at *
   go_wp2_with fail
   refine HWO.out.mono ?_
   rintro e w5 ⟨v5,rfl,hr5,hb5⟩
   have B5:=Lib.hid (B4.out.go hb5)
   have R5:=Lib.hid (RefS.midN hr5 B4.out.size)
   obtain ⟨A5,c5,rfl,-,-⟩:=hr5.form
   clear x0 x1 x2 x3 x4 x5 x6 x7 hb5 hr5 HWO
   obtain ⟨x0,x1,x2,x3,x4,x5,x6,x7⟩:=B5.out.cells
   go_wp2
   refine bodyPost_ret (v:=.tuple #[.agg #[.int .i64 pd,.slice A5 _ c5],.int .i64 0]) (by simp [results,Tryz.results96,go_sem,x0,x1,x2,x3,x4,x5,x6,x7];rfl) rfl ?_
   rw [HST.out,HD.out]
   exact ⟨_,rfl,B5.out.done HS.out R5.out (((Kept.refl _ w5).setCell (p:=⟨w.heap.size+1,0,none⟩) (.inl (.inr rfl)) _).setCell (p:=⟨w.heap.size+1,1,none⟩) (.inl (.inr rfl)) _)⟩
theorem seg_len {S:Nat→Prop} {w:World} {A:Option Addr} {n c:Nat} {l:List UInt8} (h:SegS S w (.slice A n c) (byteCells l)):n=l.length:=by
 obtain ⟨A',c',e,-⟩:=h
 injection e with e1 e2 e3
 rw [e2,byteCells_length]
theorem rat_found {pow:Int} {v:Value} {fs:List File} {S:Nat→Prop} {w:World} (hS:∀ b,S b→b < w.heap.size) (h:RefS S w v fs) {s:List UInt8} {f:File} (hf:findL File.name s fs=some f) :
  Calls Tryz.prog 52 #[.agg #[.int .i64 pow,v],.string ⟨s.toArray⟩] w fun e w'=>∃ i,∃ h:i < fs.length,e=.returned (.int .i64 (i:Nat))∧fs[i]=f∧Below w.heap.size w w':=by
 refine (rat_any pow v fs S w hS h s).mono ?_
 rintro e w' ⟨hb,⟨i,hi,rfl,hfi⟩|⟨rfl,hn⟩⟩
 ·rw [hf] at hfi
  injection hfi with hfi
  exact ⟨i,hi,rfl,hfi.symm,hb⟩
 ·rw [hf] at hn;cases hn
theorem found_cells {S:Nat→Prop} {w W:World} {A:Option Addr} {n c:Nat} {fs:List File} (h:RefS S w (.slice A n c) fs) (hS:∀ b,S b→b < w.heap.size) (hb:Below w.heap.size w W) {i:Nat} (hi:i < fs.length) {f:File} (hf:fs[i]=f) :
  ∃ b off Au cu,A=some ⟨b,off,none⟩∧b < w.heap.size∧W.cell? ⟨b,off+i * 3,none⟩=some (.string ⟨f.name.toArray⟩)∧W.cell? ⟨b,off+i * 3+1,none⟩=some (.slice Au f.data.length cu)∧W.cell? ⟨b,off+i * 3+2,none⟩=some (.int .i64 f.safe)∧SegS S w (.slice Au f.data.length cu) (byteCells f.data):=by
 obtain ⟨b,off,Au,nu,cu,rfl,h1,h2,h3,h4,h5⟩:=h.there hS hb i hi
 subst hf
 have:=seg_len h5
 subst this
 exact ⟨b,off,Au,cu,rfl,h1,h2,h3,h4,h5.keep fun b hbb=>⟨hbb,(hb.block b (hS b hbb)).symm⟩⟩
theorem three_setCell {w:World} {b:Nat} {u0 u1 u2:Value} {t:TypeId} (h:w.heap[b]? = some (.cells #[u0,u1,u2] t (0,0))) (x:Value) :
  (w.setCell ⟨b,0,none⟩ x).heap[b]? = some (.cells #[x,u1,u2] t (0,0))∧(w.setCell ⟨b,1,none⟩ x).heap[b]? = some (.cells #[u0,x,u2] t (0,0))∧(w.setCell ⟨b,2,none⟩ x).heap[b]? = some (.cells #[u0,u1,x] t (0,0)):=by
 have hlt:=lt_of_block h
 have h':w.heap[b]=.cells #[u0,u1,u2] t (0,0):=by simpa [Array.getElem?_eq_getElem hlt] using h
 refine ⟨?_,?_,?_⟩ <;> simp [World.setCell,Array.getElem_modify,hlt,h']
structure XIv (w:World) (S:Nat→Prop) (pow:Int) (v:Value) (x:File) (bx:Nat) (W:World):Prop where
 box:BoxI w pow v W
 lo:w.heap.size+2≤bx
 hx:∃ Au cu,W.heap[bx]? = some (.cells #[.string ⟨x.name.toArray⟩,.slice Au x.data.length cu,.int .i64 x.safe] 109 (0,0))∧SegS S w (.slice Au x.data.length cu) (byteCells x.data)
theorem xi_new {w W:World} {S:Nat→Prop} {pow:Int} {v:Value} {x:File} {Au:Option Addr} {cu:Nat} (hB:BoxI w pow v W) (hs:SegS S w (.slice Au x.data.length cu) (byteCells x.data)) :
  XIv w S pow v x W.heap.size (W.alloc (.cells #[.string ⟨x.name.toArray⟩,.slice Au x.data.length cu,.int .i64 x.safe] 109)) :=
 ⟨hB.go (box_below W _),hB.size,Au,cu,heap_alloc_new W _,hs⟩
theorem xi_set {w W:World} {S:Nat→Prop} {pow:Int} {v:Value} {x:File} {Au:Option Addr} {cu bx:Nat} {u0 u1 u2:Value} (hB:BoxI w pow v W) (hs:SegS S w (.slice Au x.data.length cu) (byteCells x.data)) (hlo:w.heap.size+2≤bx) (hx:W.heap[bx]? = some (.cells #[u0,u1,u2] 109 (0,0))) :
  XIv w S pow v x bx (((W.setCell ⟨bx,0,none⟩ (.string ⟨x.name.toArray⟩)).setCell ⟨bx,1,none⟩ (.slice Au x.data.length cu)).setCell ⟨bx,2,none⟩ (.int .i64 x.safe)) :=
 ⟨hB.keep (F:=fun b=>b=bx) ((((Kept.refl (fun b=>b=bx) W).setCell (p:=⟨bx,0,none⟩) (.inl rfl) _).setCell (p:=⟨bx,1,none⟩) (.inl rfl) _).setCell (p:=⟨bx,2,none⟩) (.inl rfl) _) (fun k hk=>by omega),hlo,Au,cu,(three_setCell (three_setCell (three_setCell hx _).1 _).2.1 _).2.2,hs⟩
theorem x_zero {W w5:World} {z0 z1 z2:Value} (hb:Below ((W.alloc (.cells #[z0,z1,z2] 109)).drew).heap.size ((W.alloc (.cells #[z0,z1,z2] 109)).drew) w5):w5.heap[W.heap.size]? = some (.cells #[z0,z1,z2] 109 (0,0)):=by
 rw [hb.block W.heap.size (by show _ < (W.alloc _).heap.size;simp)]
 exact heap_alloc_new W _
theorem three_cells {W:World} {b:Nat} {u0 u1 u2:Value} {t:TypeId} (h:W.heap[b]? = some (.cells #[u0,u1,u2] t (0,0))) :
  W.cell? ⟨b,0,none⟩=some u0∧W.cell? ⟨b,1,none⟩=some u1∧W.cell? ⟨b,2,none⟩=some u2∧W.frozen? ⟨b,0,none⟩=false∧W.frozen? ⟨b,1,none⟩=false∧W.frozen? ⟨b,2,none⟩=false:=by simp [World.cell?,World.frozen?,h]
theorem at_box {w:World} {S:Nat→Prop} {pd:Int} {A:Option Addr} {c:Nat} {fs:List File} {s:List UInt8} {f:File}
  (hat:∀ W,BoxI w pd (.slice A fs.length c) W→Calls Tryz.prog 52 #[.agg #[.int .i64 pd,.slice A fs.length c],.string ⟨s.toArray⟩] W fun e w'=>∃ i,∃ h:i < fs.length,e=.returned (.int .i64 (i:Nat))∧fs[i]=f∧Below W.heap.size W w')
  (hS:∀ b,S b→b < w.heap.size) (h:RefS S w (.slice A fs.length c) fs) (W:World) (hW:BoxI w pd (.slice A fs.length c) W) :
  Calls Tryz.prog 52 #[.agg #[.int .i64 pd,.slice A fs.length c],.string ⟨s.toArray⟩] W fun e w5=>∃ (i b off:Nat) (Au:Option Addr) (cu:Nat),e=.returned (.int .i64 (i:Nat))∧A=some ⟨b,off,none⟩ ∧
   Hid (Below W.heap.size W w5∧BoxI w pd (.slice A fs.length c) w5) ∧
   (i < fs.length∧b < w5.heap.size∧w.heap.size < w5.heap.size∧¬ w.heap.size=w5.heap.size∧¬ w5.heap.size=w.heap.size∧¬ b=w5.heap.size∧(∀ k,w.heap.size≤k→¬ b=k)) ∧
   (w5.cell? ⟨w.heap.size,0,none⟩=some (.int .i64 pd)∧w5.cell? ⟨w.heap.size,1,none⟩=some (.slice A fs.length c)∧w5.frozen? ⟨w.heap.size,0,none⟩=false∧w5.frozen? ⟨w.heap.size,1,none⟩=false ∧
    w5.cell? ⟨w.heap.size+1,0,none⟩=some (.int .i64 0)∧w5.cell? ⟨w.heap.size+1,1,none⟩=some (.slice none 0 0)∧w5.frozen? ⟨w.heap.size+1,0,none⟩=false∧w5.frozen? ⟨w.heap.size+1,1,none⟩=false) ∧
   w5.cell? ⟨b,off+i * 3,none⟩=some (.string ⟨f.name.toArray⟩)∧w5.cell? ⟨b,off+i * 3+1,none⟩=some (.slice Au f.data.length cu)∧w5.cell? ⟨b,off+i * 3+2,none⟩=some (.int .i64 f.safe)∧Hid (SegS S w (.slice Au f.data.length cu) (byteCells f.data)):=by
 refine (hat W hW).mono ?_
 rintro e w5 ⟨i,hi,rfl,hfi,hb5⟩
 have B5:=hW.go hb5
 obtain ⟨b,off,Au,cu,rfl,hb,g0,g1,g2,g3⟩:=found_cells h hS B5.below hi hfi
 have hz:=B5.size
 exact ⟨i,b,off,Au,cu,rfl,rfl,Lib.hid ⟨hb5,B5⟩,⟨hi,by omega,by omega,by omega,by omega,by omega,fun k hk=>by omega⟩,B5.cells,g0,g1,g2,Lib.hid g3⟩
structure XM (w:World) (S:Nat→Prop) (pow:Int) (v:Value) (x:File) (Au:Option Addr) (cu:Nat) (bx:Nat) (W:World):Prop where
 box:BoxI w pow v W
 lo:w.heap.size+2≤bx
 hx:W.heap[bx]? = some (.cells #[.string ⟨x.name.toArray⟩,.slice Au x.data.length cu,.int .i64 x.safe] 109 (0,0))
 seg:SegS (fun b=>Mid S w W b∧b≠bx) W (.slice Au x.data.length cu) (byteCells x.data)
theorem Mid.lt {S:Nat→Prop} {w W:World} (hS:∀ b,S b→b < w.heap.size) (hz:w.heap.size≤W.heap.size):∀ b,Mid S w W b→b < W.heap.size:=by
 rintro b (h|h)
 ·have:=hS b h;omega
 ·exact h.2
theorem Mid.mono {S:Nat→Prop} {w W W':World} (hz:W.heap.size≤W'.heap.size):∀ b,Mid S w W b→Mid S w W' b:=by
 rintro b (h|h)
 ·exact .inl h
 ·exact .inr ⟨h.1,by omega⟩
theorem XIv.toM {w W:World} {S:Nat→Prop} (hS:∀ b,S b→b < w.heap.size) {pow:Int} {v:Value} {x:File} {bx:Nat} (h:XIv w S pow v x bx W):∃ Au cu,XM w S pow v x Au cu bx W:=by
 obtain ⟨Au,cu,h1,h2⟩:=h.hx
 have hlo:=h.lo
 exact ⟨Au,cu,h.box,h.lo,h1,h2.keep fun b hb=>⟨⟨.inl hb,by have:=hS b hb;omega⟩,h.box.below.block b (hS b hb)⟩⟩
theorem XM.go {w W W':World} {S:Nat→Prop} (hS:∀ b,S b→b < w.heap.size) {pow:Int} {v:Value} {x:File} {Au:Option Addr} {cu bx:Nat} (h:XM w S pow v x Au cu bx W) (hb:Below W.heap.size W W'):XM w S pow v x Au cu bx W':=by
 have hz:=h.box.size
 exact ⟨h.box.go hb,h.lo,(hb.block _ (lt_of_block h.hx)).trans h.hx,h.seg.keep fun b hbb=>⟨⟨Mid.mono hb.size b hbb.1,hbb.2⟩,hb.block b (Mid.lt hS (by omega) b hbb.1)⟩⟩
theorem XM.store {w W:World} {S:Nat→Prop} (hS:∀ b,S b→b < w.heap.size) {pow:Int} {v:Value} {x:File} {Au:Option Addr} {cu bx:Nat} (h:XM w S pow v x Au cu bx W) (pow':Int) (v':Value):XM w S pow' v' x Au cu bx ((W.setCell ⟨w.heap.size,0,none⟩ (.int .i64 pow')).setCell ⟨w.heap.size,1,none⟩ v'):=by
 have hz:=h.box.size
 have hlo:=h.lo
 have hK:Kept (fun b=>b=w.heap.size) W ((W.setCell ⟨w.heap.size,0,none⟩ (.int .i64 pow')).setCell ⟨w.heap.size,1,none⟩ v'):=((Kept.refl (fun b=>b=w.heap.size) W).setCell (p:=⟨w.heap.size,0,none⟩) (.inl rfl) _).setCell (p:=⟨w.heap.size,1,none⟩) (.inl rfl) _
 refine ⟨h.box.store pow' v',h.lo,(hK.block _ (lt_of_block h.hx) (by omega)).trans h.hx,h.seg.keep fun b hbb=>⟨⟨Mid.mono hK.size b hbb.1,hbb.2⟩,hK.block b (Mid.lt hS (by omega) b hbb.1) (fun e=>?_)⟩⟩
 rcases hbb.1 with h1|h1
 ·have:=hS b h1;omega
 ·omega
theorem XM.setBox {w W:World} {S:Nat→Prop} (hS:∀ b,S b→b < w.heap.size) {pow:Int} {v:Value} {x:File} {Au:Option Addr} {cu bx:Nat} (h:XM w S pow v x Au cu bx W) {W':World} (hK:Kept (fun b=>b=bx) W W') {x':File} {Au':Option Addr} {cu':Nat}
  (hx:W'.heap[bx]? = some (.cells #[.string ⟨x'.name.toArray⟩,.slice Au' x'.data.length cu',.int .i64 x'.safe] 109 (0,0))) (hs:SegS (fun b=>Mid S w W b∧b≠bx) W (.slice Au' x'.data.length cu') (byteCells x'.data)):XM w S pow v x' Au' cu' bx W':=by
 have hz:=h.box.size
 have hlo:=h.lo
 exact ⟨h.box.keep hK (fun k hk=>by omega),h.lo,hx,hs.keep fun b hbb=>⟨⟨Mid.mono hK.size b hbb.1,hbb.2⟩,hK.block b (Mid.lt hS (by omega) b hbb.1) hbb.2⟩⟩
theorem XM.setSafe {w W:World} {S:Nat→Prop} (hS:∀ b,S b→b < w.heap.size) {pow:Int} {v:Value} {x:File} {Au:Option Addr} {cu bx:Nat} (h:XM w S pow v x Au cu bx W) (k:Nat):XM w S pow v ⟨x.name,x.data,k⟩ Au cu bx (W.setCell ⟨bx,2,none⟩ (.int .i64 k)) :=
 h.setBox hS ((Kept.refl (fun b=>b=bx) W).setCell (p:=⟨bx,2,none⟩) (.inl rfl) _) (three_setCell h.hx _).2.2 h.seg
theorem XM.setData {w W:World} {S:Nat→Prop} (hS:∀ b,S b→b < w.heap.size) {pow:Int} {v:Value} {x:File} {Au:Option Addr} {cu bx:Nat} (h:XM w S pow v x Au cu bx W) {w2:World} (hb:Below W.heap.size W w2) {A2:Option Addr} {c2 n2:Nat} {d:List UInt8} (hn:n2=d.length)
  (hu:Par.Own w2 W.heap.size 5 (.slice A2 n2 c2) (byteCells d)):XM w S pow v ⟨x.name,d,x.safe⟩ A2 c2 bx (w2.setCell ⟨bx,1,none⟩ (.slice A2 n2 c2)):=by
 subst hn
 have hz:=h.box.size
 have hlo:=h.lo
 have hbx:=lt_of_block h.hx
 refine (h.go hS hb).setBox hS ((Kept.refl (fun b=>b=bx) w2).setCell (p:=⟨bx,1,none⟩) (.inl rfl) _) (three_setCell (h.go hS hb).hx _).2.1 ?_
 have:=Own.outS hu (F:=fun k=>k < W.heap.size) (fun k hk=>hk)
 exact this.keep fun b hbb=>⟨⟨.inr ⟨by have:=hbb.2;omega,hbb.1⟩,fun e=>hbb.2 (by omega)⟩,rfl⟩
theorem XM.cells {w W:World} {S:Nat→Prop} {pow:Int} {v:Value} {x:File} {Au:Option Addr} {cu bx:Nat} (h:XM w S pow v x Au cu bx W) :
  (W.cell? ⟨w.heap.size,0,none⟩=some (.int .i64 pow)∧W.cell? ⟨w.heap.size,1,none⟩=some v∧W.frozen? ⟨w.heap.size,0,none⟩=false∧W.frozen? ⟨w.heap.size,1,none⟩=false ∧
  W.cell? ⟨w.heap.size+1,0,none⟩=some (.int .i64 0)∧W.cell? ⟨w.heap.size+1,1,none⟩=some (.slice none 0 0)∧W.frozen? ⟨w.heap.size+1,0,none⟩=false∧W.frozen? ⟨w.heap.size+1,1,none⟩=false) ∧
  (W.cell? ⟨bx,0,none⟩=some (.string ⟨x.name.toArray⟩)∧W.cell? ⟨bx,1,none⟩=some (.slice Au x.data.length cu)∧W.cell? ⟨bx,2,none⟩=some (.int .i64 x.safe)∧W.frozen? ⟨bx,0,none⟩=false∧W.frozen? ⟨bx,1,none⟩=false∧W.frozen? ⟨bx,2,none⟩=false) ∧
  (¬ bx=w.heap.size∧¬ w.heap.size=bx∧¬ bx=w.heap.size+1∧¬ w.heap.size+1=bx):=by
 have hlo:=h.lo
 exact ⟨h.box.cells,three_cells h.hx,by omega,by omega,by omega,by omega⟩
theorem RefS.midM {S:Nat→Prop} {w W W':World} {v:Value} {fs:List File} (h:RefS (New (Mid S w W) W W') W' v fs) (hz:w.heap.size+2≤W.heap.size) (hzz:W.heap.size≤W'.heap.size):RefS (Mid S w W') W' v fs:=h.sub fun b hb=>by
 rcases hb with (hb|hb)|hb
 ·exact .inl hb
 ·exact .inr ⟨hb.1,by omega⟩
 ·exact .inr ⟨by omega,hb.2⟩
theorem XM.with {w W:World} {S:Nat→Prop} (hS:∀ b,S b→b < w.heap.size) {pow:Int} {v u:Value} {x:File} {Au:Option Addr} {cu bx:Nat} (h:XM w S pow v x Au cu bx W) {gs:List File} (hr:RefS (Mid S w W) W u gs) (hl:gs.length≤900000) :
  Calls Tryz.prog 53 #[.agg #[.int .i64 pow,u],.agg #[.string ⟨x.name.toArray⟩,.slice Au x.data.length cu,.int .i64 x.safe]] W fun e w6=>∃ A6 n6 c6,e=.returned (.agg #[.int .i64 pow,.slice A6 n6 c6])∧Hid (RefS (Mid S w w6) w6 (.slice A6 n6 c6) (withL File.name x gs)∧XM w S pow v x Au cu bx w6):=by
 have hz:=h.box.size
 refine (rwith_any pow u gs (Mid S w W) W (Mid.lt hS (by omega)) hr x _ (h.seg.keep fun b hb=>⟨hb.1,rfl⟩) hl).mono ?_
 rintro e w6 ⟨v6,rfl,hr6,hb6⟩
 have R:=RefS.midM hr6 h.box.size hb6.size
 obtain ⟨A6,c6,rfl,-,-⟩:=R.form
 exact ⟨A6,_,c6,rfl,Lib.hid ⟨R,h.go hS hb6⟩⟩
theorem seg_takeR {w:World} {B:Nat} {A:Option Addr} {c:Nat} {l:List UInt8} (h:Seg w B (.slice A l.length c) (byteCells l)) (k:Nat) (hk:k≤l.length):k≤c∧Seg w B (.slice A k c) (byteCells (l.take k)):=by
 obtain ⟨A',c',e,h2,h3,h4⟩:=h
 rw [byteCells_length] at e h2 h4
 injection e with e1 e2 e3
 subst e1 e3
 have hl:(byteCells (l.take k)).length=k:=by rw [byteCells_length];simp;omega
 refine ⟨by omega,A,c,by rw [hl],by rw [hl];omega,h3,fun hp=>?_⟩
 rw [hl] at hp
 obtain ⟨b,off,e,hb,hc⟩:=h4 (by omega)
 refine ⟨b,off,e,hb,fun i hi=>?_⟩
 rw [hl] at hi
 rw [hc i (by omega)]
 simp [byteCells,hi]
theorem XM.segW {w W:World} {S:Nat→Prop} (hS:∀ b,S b→b < w.heap.size) {pow:Int} {v:Value} {x:File} {Au:Option Addr} {cu bx:Nat} (h:XM w S pow v x Au cu bx W):Seg W W.heap.size (.slice Au x.data.length cu) (byteCells x.data) :=
 h.seg.seg fun b hb=>Mid.lt hS (by have:=h.box.size;omega) b hb.1
theorem XM.done {w W w':World} {S:Nat→Prop} (hS:∀ b,S b→b < w.heap.size) {pow:Int} {v u:Value} {x:File} {Au:Option Addr} {cu bx:Nat} (h:XM w S pow v x Au cu bx W) {fs:List File} (hr:RefS (Mid S w W) W u fs) (hK:Kept (fun b=>b=w.heap.size∨b=w.heap.size+1) W w') :
  RefS (New S w w') w' u fs∧Below w.heap.size w w':=h.box.done hS hr hK
theorem findL_inR {s:List UInt8} {fs:List File} {f:File} (h:findL File.name s fs=some f):f∈fs:=List.mem_of_find?_eq_some h
theorem findL_nameR {s:List UInt8} {fs:List File} {f:File} (h:findL File.name s fs=some f):f.name=s:=by
 have:=List.find?_some h
 simpa using this
theorem xm_zero {w W:World} {S:Nat→Prop} {pow:Int} {v:Value} (hB:BoxI w pow v W) (s:List UInt8):XM w S pow v ⟨s,[],0⟩ none 0 W.heap.size (W.alloc (.cells #[.string ⟨s.toArray⟩,.slice none 0 0,.int .i64 0] 109)) :=
 ⟨hB.go (box_below W _),hB.size,heap_alloc_new W _,⟨none,0,rfl,by simp [byteCells],by simp [maxLen],fun h=>by simp [byteCells] at h⟩⟩
theorem XM.copy {w W:World} {S:Nat→Prop} (hS:∀ b,S b→b < w.heap.size) {pow:Int} {v:Value} {x:File} {Au:Option Addr} {cu bx:Nat} (h:XM w S pow v x Au cu bx W) (hl:x.data.length≤1000000) :
  Calls Tryz.prog 12 #[.slice Au x.data.length cu] W fun e w'=>∃ W0 u,e=.returned u∧Hid (XM w S pow v x Au cu bx W0)∧Hid (Par.Own w' W0.heap.size 5 u (byteCells x.data))∧Hid (Below W0.heap.size W0 w'):=by
 refine (copyBytes_any _ x.data _ W (h.segW hS) (Nat.le_refl _) hl).mono ?_
 rintro e w' ⟨u,rfl,hu,hb⟩
 exact ⟨W,u,rfl,Lib.hid h,Lib.hid hu,Lib.hid hb⟩
end Go.Proofs.YtaalbcfpacpgfaaGreat
