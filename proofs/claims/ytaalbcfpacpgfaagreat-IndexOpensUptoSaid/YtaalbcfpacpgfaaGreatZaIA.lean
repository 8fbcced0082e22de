/- Merged of I1 IP I3 I3b. -/
import Derived.Test.YtaalbcfpacpgfaaGreatZaXA
import Derived.Test.YtaalbcfpacpgfaaGreatZaXZ
set_option linter.unusedVariables false
set_option linter.unusedSimpArgs false
namespace Go.Ix
open Go.RowKit Go.Lib Go.Vfs Go.Par Go.Typ
structure En where
 uri:ByteArray
 ver:Int
 exs:List Ex
theorem En.ext' {x y:En} (h1:x.uri=y.uri) (h2:x.ver=y.ver) (h3:x.exs=y.exs):x=y:=by cases x;cases y;simp_all
def keyE (e:En):List UInt8:=e.uri.data.toList
def enV (e:En) (A:Option Addr) (c:Nat):Value:=.agg #[.string e.uri,.int .i64 e.ver,.slice A e.exs.length c]
def EntAt (S:Nat→Prop) (W:World) (v:Value) (e:En):Prop :=
 ∃ A c,v=enV e A c∧e.uri.size≤9223372036854775807∧ExsAt S W (.slice A e.exs.length c) e.exs
theorem EntAt.keep {S S':Nat→Prop} {w w':World} {v:Value} {x:En} (h:EntAt S w v x) (hk:∀ b,S b→S' b∧w'.heap[b]? = w.heap[b]?):EntAt S' w' v x:=by
 obtain ⟨A,c,e,hn,ht⟩:=h;exact ⟨A,c,e,hn,ht.keep hk⟩
def EntsAt (S:Nat→Prop) (W:World) (v:Value) (xs:List En):Prop :=
 ∃ A c,v=.slice A xs.length c∧xs.length≤c∧c≤maxLen∧∃ vs:Nat→Value,
  (0 < xs.length→∃ b off,A=some ⟨b,off,none⟩∧S b∧∀ i,i < xs.length→∀ j,j < 3→W.cell? ⟨b,off+i * 3+j,none⟩=some (fld (vs i) j))∧∀ i (h:i < xs.length),EntAt S W (vs i) xs[i]
section
variable {S S':Nat→Prop} {W W':World} {v:Value} {xs:List En}
theorem EntsAt.keep (h:EntsAt S W v xs) (hk:∀ b,S b→S' b∧W'.heap[b]? = W.heap[b]?):EntsAt S' W' v xs:=by
 obtain ⟨A,c,e,h1,h2,vs,h3,h4⟩:=h
 refine ⟨A,c,e,h1,h2,vs,fun h0=>?_,fun i hi=>(h4 i hi).keep hk⟩
 obtain ⟨b,off,e,hb,hat⟩:=h3 h0
 exact ⟨b,off,e,(hk b hb).1,fun i hi j hj=>by rw [World.cell?_of_block (w:=W) (a:=⟨b,_,none⟩) (hk b hb).2];exact hat i hi j hj⟩
theorem EntsAt.blw (h:EntsAt (· < W.heap.size) W v xs) (hb:Below W.heap.size W W'):EntsAt (· < W'.heap.size) W' v xs :=
 h.keep fun g hg=>⟨Nat.lt_of_lt_of_le hg hb.size,hb.block g hg⟩
theorem EntsAt.form (h:EntsAt S W v xs):∃ A c,v=.slice A xs.length c∧xs.length≤c∧c≤maxLen:=by
 obtain ⟨A,c,e,h1,h2,_⟩:=h;exact ⟨A,c,e,h1,h2⟩
theorem EntsAt.arg {A:Option Addr} {n c:Nat} (h:EntsAt S W (.slice A n c) xs) {i:Nat} (hi:i < xs.length) :
  ∃ b off A' c',A=some ⟨b,off,none⟩∧S b∧xs[i].uri.size≤9223372036854775807∧ExsAt S W (.slice A' xs[i].exs.length c') xs[i].exs ∧
   W.cell? ⟨b,off+i * 3,none⟩=some (.string xs[i].uri)∧W.cell? ⟨b,off+i * 3+1,none⟩=some (.int .i64 xs[i].ver)∧W.cell? ⟨b,off+i * 3+2,none⟩=some (.slice A' xs[i].exs.length c'):=by
 obtain ⟨A0,c0,e,h1,h2,vs,h3,h4⟩:=h
 cases e
 obtain ⟨b,off,e,hb,hat⟩:=h3 (by omega)
 obtain ⟨A',c',ev,hn,ht⟩:=h4 i hi
 have g0:=hat i hi 0 (by omega)
 have g1:=hat i hi 1 (by omega)
 have g2:=hat i hi 2 (by omega)
 rw [ev] at g0 g1 g2
 exact ⟨b,off,A',c',e,hb,hn,ht,g0,g1,g2⟩
theorem EntsAt.nil (S:Nat→Prop) (W:World) (A:Option Addr) (c:Nat) (hc:c≤maxLen):EntsAt S W (.slice A 0 c) [] :=
 ⟨A,c,rfl,Nat.zero_le _,hc,fun _=>.bool false,fun h=>absurd h (by simp),fun i h=>absurd h (by simp)⟩
end
theorem box3 {W:World} {b:Nat} {v0 v1 v2:Value} {t:TypeId} (h:W.heap[b]? = some (.cells #[v0,v1,v2] t (0,0))) :
  (W.cell? ⟨b,0,none⟩=some v0∧W.cell? ⟨b,1,none⟩=some v1∧W.cell? ⟨b,2,none⟩=some v2):=by
 simp [World.cell?,h]
theorem box3_frozen {W:World} {b:Nat} {v0 v1 v2:Value} {t:TypeId} (h:W.heap[b]? = some (.cells #[v0,v1,v2] t (0,0))) :
  (W.frozen? ⟨b,0,none⟩=false∧W.frozen? ⟨b,1,none⟩=false∧W.frozen? ⟨b,2,none⟩=false):=by
 simp [World.frozen?,h]
theorem put3 {W:World} {r:Nat} {u0 u1 u2:Value} (v0 v1 v2:Value) {t:TypeId} (h:W.heap[r]? = some (.cells #[u0,u1,u2] t (0,0))) :
  (((W.setCell ⟨r,0,none⟩ v0).setCell ⟨r,1,none⟩ v1).setCell ⟨r,2,none⟩ v2).heap[r]? = some (.cells #[v0,v1,v2] t (0,0)):=by
 have h1:=cells_put h 0 v0
 have h2:=cells_put h1 1 v1
 have h3:=cells_put h2 2 v2
 simpa using h3
theorem kept3 {W:World} {r:Nat} {F:Nat→Prop} {a:World} (h:Kept F a W) (hr:F r∨a.heap.size≤r) (v0 v1 v2:Value):Kept F a (((W.setCell ⟨r,0,none⟩ v0).setCell ⟨r,1,none⟩ v1).setCell ⟨r,2,none⟩ v2) :=
 ((h.setCell (p:=⟨r,0,none⟩) hr _).setCell (p:=⟨r,1,none⟩) hr _).setCell (p:=⟨r,2,none⟩) hr _
open Go.RowKit Go.Lib Go.Vfs Go.Par Go.Typ Go.Proofs.YtaalbcfpacpgfaaGreat
def uriOk (s:ByteArray):Bool:=decide (1≤s.size∧s.size≤64)
def verOk (n:Int):Bool:=decide (0≤n∧n < 1073741824)
def okE (e:En):Bool:=uriOk e.uri && (verOk e.ver && rightX e.exs)
def recE (e:En):List UInt8:=[1,e.uri.size.toUInt8] ++ (e.uri.data.toList ++ (be4Q e.ver.toNat ++ encX e.exs))
theorem okE_uri {e:En} (h:okE e=true):1≤e.uri.size∧e.uri.size≤64:=by
 unfold okE uriOk at h;simp at h;exact h.1
theorem okE_exs {e:En} (h:okE e=true):rightX e.exs=true:=by
 unfold okE at h;simp at h;exact h.2.2
theorem okE_mk {e:En} (h1:1≤e.uri.size∧e.uri.size≤64) (h2:0≤e.ver∧e.ver < 1073741824) (h3:rightX e.exs=true):okE e=true:=by
 unfold okE uriOk verOk;simp [h1,h2,h3]
theorem ba_len (s:ByteArray):s.data.toList.length=s.size:=by rw [Array.length_toList];rfl
theorem exB_len {x:Ex} (h1:x.name.size≤255) (h2:rightT x.ty=true) (h3:shortT x.ty=true):(exB x).length≤100000:=by
 have hp:=(rightT_iff.1 h2).1
 have hw:=wrT_len x.ty h3
 have hn:=ba_len x.name
 unfold exB
 simp only [List.length_append,List.length_singleton,hn]
 omega
theorem exsB_len:∀ {xs:List Ex},(∀ x∈xs,(exB x).length≤100000)→(exsB xs).length≤100000 * xs.length
 | [],_=>by simp [exsB]
 | x :: xs,h=>by
  have h1:=h x (by simp)
  have h2:=exsB_len (xs:=xs) fun y hy=>h y (by simp [hy])
  have e:exsB (x :: xs)=exB x ++ exsB xs:=by have:=exsB_step (xs:=x :: xs) (k:=0) (by simp);simpa using this
  rw [e,List.length_append,List.length_cons]
  omega
theorem encX_len {xs:List Ex} (h:rightX xs=true):(encX xs).length≤100000002:=by
 have h1:=rightX_len h
 have h2:=exsB_len (xs:=xs) fun x hx=>by
  obtain ⟨a,b,c⟩:=right_each h x hx
  exact exB_len a b c
 unfold encX
 simp only [List.length_append,List.length_cons,List.length_nil]
 omega
def tailE (U:ByteArray) (a:Nat) (R:List UInt8):Option (En × Bool) :=
 if a=2 then (if R.length=0 then some (⟨U,0,[]⟩,false) else none) else
 if a=1 then (if R.length < 4 then none else
  match decX (R.drop 4) with
  | none=>none
  | some xs=>if 1073741824≤numB (R.take 4) then none else some (⟨U,(numB (R.take 4):Int),xs⟩,true)) else none
def readE (b:List UInt8):Option (En × Bool) :=
 if b.length < 2∨b.length - 2 < (b.getD 1 0).toNat then none else
 if ¬ (1≤(b.getD 1 0).toNat∧(b.getD 1 0).toNat≤64) then none else
 tailE ⟨((b.drop 2).take (b.getD 1 0).toNat).toArray⟩ (b.getD 0 0).toNat (b.drop (2+(b.getD 1 0).toNat))
theorem tailE_oth {U:ByteArray} {a:Nat} {R:List UInt8} (h2:¬ a=2) (h1:¬ a=1):tailE U a R=none:=by unfold tailE;rw [if_neg h2,if_neg h1]
theorem tailE_short {U:ByteArray} {R:List UInt8} (h:R.length < 4):tailE U 1 R=none:=by unfold tailE;rw [if_neg (by decide),if_pos rfl,if_pos h]
theorem tailE_dec {U:ByteArray} {R:List UInt8} (h:¬ R.length < 4) (hd:decX (R.drop 4)=none):tailE U 1 R=none:=by unfold tailE;rw [if_neg (by decide),if_pos rfl,if_neg h,hd]
theorem tailE_big {U:ByteArray} {R:List UInt8} (h:¬ R.length < 4) (hb:1073741824≤numB (R.take 4)):tailE U 1 R=none:=by
 unfold tailE;rw [if_neg (by decide),if_pos rfl,if_neg h]
 cases decX (R.drop 4) with
 | none=>rfl
 | some xs=>simp only;rw [if_pos hb]
theorem tailE_ok {U:ByteArray} {R:List UInt8} {xs:List Ex} (h:¬ R.length < 4) (hd:decX (R.drop 4)=some xs) (hb:¬ 1073741824≤numB (R.take 4)):tailE U 1 R=some (⟨U,(numB (R.take 4):Int),xs⟩,true):=by
 unfold tailE;rw [if_neg (by decide),if_pos rfl,if_neg h,hd];simp only;rw [if_neg hb]
theorem ba_toArray (s:ByteArray):(⟨s.data.toList.toArray⟩:ByteArray)=s:=by cases s;simp
theorem u8_small {n:Nat} (h:n < 256):n.toUInt8.toNat=n:=by
 show (UInt8.ofNat n).toNat=n
 rw [UInt8.toNat_ofNat'];omega
theorem readE_ok {b:List UInt8} {e:En} {t:Bool} (h:readE b=some (e,t)):(1≤e.uri.size∧e.uri.size≤64)∧(t=true→okE e=true):=by
 unfold readE tailE at h
 split at h
 ·cases h
 rename_i g1
 split at h
 ·cases h
 rename_i g2
 have hsz:((⟨((b.drop 2).take (b.getD 1 0).toNat).toArray⟩:ByteArray)).size=(b.getD 1 0).toNat:=by
  show ((b.drop 2).take (b.getD 1 0).toNat).toArray.size=_
  simp only [List.size_toArray,List.length_take,List.length_drop];omega
 split at h
 ·split at h
  ·simp only [Option.some.injEq,Prod.mk.injEq] at h
   obtain ⟨rfl,rfl⟩:=h
   exact ⟨by simp only [hsz];omega,fun h=>by cases h⟩
  ·cases h
 split at h
 ·split at h
  ·cases h
  split at h
  ·cases h
  rename_i xs hx
  split at h
  ·cases h
  rename_i g5
  simp only [Option.some.injEq,Prod.mk.injEq] at h
  obtain ⟨rfl,rfl⟩:=h
  exact ⟨by simp only [hsz];omega,fun _=>okE_mk (by simp only [hsz];omega) (by simp only;omega) (decX_wr hx).1⟩
 ·cases h
def stepE (es:List En) (b:List UInt8):Option (List En):=match readE b with
 | none=>none
 | some (e,true)=>some (withL keyE e es)
 | some (e,false)=>some (dropL keyE (keyE e) es)
def replay:List En→List (List UInt8)→Option (List En)
 | es,[]=>some es
 | es,b :: bs=>match stepE es b with | none=>none | some es'=>replay es' bs
theorem replay_append (bs cs:List (List UInt8)):∀ es:List En,replay es (bs ++ cs)=match replay es bs with | none=>none | some es'=>replay es' cs:=by
 induction bs with
 | nil=>intro es;rfl
 | cons b bs ih =>
  intro es
  rw [List.cons_append,replay,replay]
  cases stepE es b with
  | none=>rfl
  | some es'=>exact ih es'
theorem replay_snoc {es es':List En} {bs:List (List UInt8)} {b:List UInt8} (h:replay es bs=some es'):replay es (bs ++ [b])=stepE es' b:=by
 rw [replay_append,h]
 simp only [replay]
 cases stepE es' b <;> rfl
structure Good (es:List En):Prop where
 rising:Rising keyE es
 ok:∀ e∈es,okE e=true
theorem Good.nil:Good []:=⟨List.Pairwise.nil,by simp⟩
theorem Good.step {es es':List En} {b:List UInt8} (h:Good es) (hs:stepE es b=some es'):Good es':=by
 unfold stepE at hs
 split at hs
 ·cases hs
 ·rename_i e he
  cases hs
  exact ⟨h.rising.withL,fun x hx=>by
   rcases mem_withL.1 hx with rfl|hx
   ·exact (readE_ok he).2 rfl
   ·exact h.ok x hx.1⟩
 ·rename_i e he
  cases hs
  exact ⟨h.rising.dropL _,fun x hx=>h.ok x (mem_dropL.1 hx).1⟩
theorem Good.replay {bs:List (List UInt8)}:∀ {es es':List En},Good es→replay es bs=some es'→Good es':=by
 induction bs with
 | nil=>intro es es' h hr;cases hr;exact h
 | cons b bs ih =>
  intro es es' h hr
  rw [Ix.replay] at hr
  cases hs:stepE es b with
  | none=>rw [hs] at hr;cases hr
  | some e2=>rw [hs] at hr;exact ih (h.step hs) hr
end Go.Ix
namespace Go.Proofs.YtaalbcfpacpgfaaGreat
open Go.RowKit Go.Lib Go.Vfs Go.Par Go.Typ Go.Shelf Go.Ix
set_option maxRecDepth 20000 in
theorem rightURI_any (s:ByteArray) (hs:s.size≤9223372036854775807) (w:World):Calls Tryz.prog 74 #[.string s] w fun e w'=>e=.returned (.bool (uriOk s))∧w'=w:=by
 by_cases h1:1≤s.size
 ·by_cases h2:s.size≤64
  ·have hr:uriOk s=true:=by unfold uriOk;simp [h1,h2]
   rw [hr]
   have g1:(1:Int)≤(s.size:Int):=by omega
   have g2:(s.size:Int)≤64:=by omega
   clear hr
   go_enter Tryz.func74,Tryz.ntmps74
   go_wp2
   go_ret
   exact ⟨rfl,rfl⟩
  ·have hr:uriOk s=false:=by unfold uriOk;simp [h1,h2]
   rw [hr]
   have g1:(1:Int)≤(s.size:Int):=by omega
   have g2:¬ (s.size:Int)≤64:=by omega
   clear hr
   go_enter Tryz.func74,Tryz.ntmps74
   go_wp2
   go_ret
   exact ⟨rfl,rfl⟩
 ·have hr:uriOk s=false:=by unfold uriOk;simp [h1]
  rw [hr]
  have g1:¬ (1:Int)≤(s.size:Int):=by omega
  clear hr
  go_enter Tryz.func74,Tryz.ntmps74
  go_wp2
  go_ret
  exact ⟨rfl,rfl⟩
theorem head_cells (a:UInt8) (n:Nat) (hn:n≤255):#[Value.int .u8 (a.toNat:Int),.int .u8 (n:Int)]=(byteCells [a,n.toUInt8]).toArray:=by
 have:(n.toUInt8).toNat=n:=u8_small (by omega)
 simp [byteCells,this]
def RecPost (E:En) (w:World) (e:Ending) (w':World):Prop :=
 ∃ v',e=.returned (.tuple #[v',.int .i64 (if okE E then 0 else 200)])∧Below w.heap.size w w'∧(okE E=true→Par.Own w' w.heap.size 5 v' (byteCells (recE E)))∧(okE E=false→v'=.slice none 0 0)
theorem rec_none {E:En} {w w':World} (h:okE E=false) (hb:Below w.heap.size w w'):RecPost E w (.returned (.tuple #[.slice none 0 0,.int .i64 200])) w' :=
 ⟨_,by rw [h];rfl,hb,fun h2=>(by rw [h] at h2;cases h2),fun _=>rfl⟩
set_option maxRecDepth 20000 in
set_option maxHeartbeats 4000000 in
theorem record_any (E:En) (v:Value) (w:World) (hX:EntAt (· < w.heap.size) w v E):Calls Tryz.prog 38 #[v] w (RecPost E w):=by
 obtain ⟨A,c,rfl,hn,hX⟩:=hX
 obtain ⟨P,hP⟩:∃ P,P=RecPost E w:=⟨_,rfl⟩
 have HPO:=Lib.hid hP
 rw [←hP]
 clear hP
 obtain ⟨A0,c0,e0,hc,hm⟩:=hX.form
 injection e0 with e1 _ e2
 subst e1 e2
 obtain ⟨W1,hW1⟩:∃ W1,W1=w.alloc (.cells #[.string E.uri,.int .i64 E.ver,.slice A E.exs.length c] 55):=⟨_,rfl⟩
 have hb1:Below w.heap.size w W1:=by rw [hW1];exact (Below.refl _ _).alloc (Nat.le_refl _) _
 have hz1:W1.heap.size=w.heap.size+1:=by rw [hW1];simp
 have hbx:W1.heap[w.heap.size]? = some (.cells #[.string E.uri,.int .i64 E.ver,.slice A E.exs.length c] 55 (0,0)):=by
  rw [hW1];exact heap_alloc_new _ _
 have HRU:=Lib.hid (rightURI_any E.uri hn W1)
 have HEN:=Lib.hid (encode_any E.exs _ W1 (hX.blw hb1))
 have HB1:=Lib.hid hb1;have HZ1:=Lib.hid hz1;have HBX:=Lib.hid hbx
 obtain ⟨y0,y1,y2⟩:=box3 hbx
 rw [hW1] at y0 y1 y2
 clear hX hm hb1 hz1 hbx
 unfold enV
 go_enter Tryz.func38,Tryz.ntmps38
 go_wp2_with fail
 rw [←hW1] at y0 y1 y2 ⊢
 clear hW1
 refine HRU.out.mono ?_
 rintro e w2 ⟨rfl,rfl⟩
 by_cases hu:uriOk E.uri=true
 rotate_left
 ·have hu':uriOk E.uri=false:=by simpa using hu
  have HE:Hid (P (.returned (.tuple #[.slice none 0 0,.int .i64 200])) w2):=Lib.hid (by
   rw [HPO.out];exact rec_none (by unfold okE;rw [hu'];rfl) HB1.out)
  rw [hu']
  clear hu hu'
  go_wp2
  exact HE.out
 by_cases hv0:E.ver < 0
 ·have HE:Hid (P (.returned (.tuple #[.slice none 0 0,.int .i64 200])) w2):=Lib.hid (by
   rw [HPO.out];exact rec_none (by unfold okE verOk;rw [show decide (0≤E.ver∧E.ver < 1073741824)=false by simp;omega];simp) HB1.out)
  rw [hu]
  clear hu
  go_wp2
  exact HE.out
 by_cases hv1:1073741824≤E.ver
 ·have HE:Hid (P (.returned (.tuple #[.slice none 0 0,.int .i64 200])) w2):=Lib.hid (by
   rw [HPO.out];exact rec_none (by unfold okE verOk;rw [show decide (0≤E.ver∧E.ver < 1073741824)=false by simp;omega];simp) HB1.out)
  rw [hu]
  clear hu
  go_wp2
  exact HE.out
 have HU:=Lib.hid hu
 rw [hu]
 clear hu
 go_wp2_with fail
 refine HEN.out.mono ?_
 rintro e w3 ⟨v3,rfl,hb3,ho3,hn3⟩
 have hz3:=hb3.size
 have hz1:=HZ1.out
 by_cases hr:rightX E.exs=true
 rotate_left
 ·have hr':rightX E.exs=false:=by simpa using hr
  have HE:Hid (P (.returned (.tuple #[.slice none 0 0,.int .i64 200])) w3):=Lib.hid (by
   rw [HPO.out];exact rec_none (by unfold okE;rw [hr'];simp) (HB1.out.trans (hb3.mono (by omega))))
  rw [hr']
  clear hr hr' ho3 hn3 hb3
  go_wp2
  exact HE.out
 have hok:okE E=true:=by unfold okE verOk;rw [HU.out,hr];simp;omega
 have HOK:=Lib.hid hok
 have hus:E.uri.size≤64:=(okE_uri hok).2
 have ho3:=ho3 hr
 rw [hr]
 have HB3:Hid (Below w.heap.size w w3):=Lib.hid (HB1.out.trans (hb3.mono (by omega)))
 obtain ⟨A3,c3,rfl⟩:=ho3.form
 obtain ⟨W4,hW4⟩:∃ W4,W4=w3.alloc (.cells #[.int .u8 1,.int .u8 (E.uri.size:Int)] 5):=⟨_,rfl⟩
 have hb4:Below w3.heap.size w3 W4:=by rw [hW4];exact (Below.refl _ _).alloc (Nat.le_refl _) _
 have hown4:Par.Own W4 w3.heap.size 5 (.slice (some ⟨w3.heap.size,0,none⟩) 2 2) (byteCells [1,E.uri.size.toUInt8]):=by
  rw [hW4]
  have h:=Par.Own.new w3 w3.heap.size 5 #[.int .u8 1,.int .u8 (E.uri.size:Int)] (byteCells [1,E.uri.size.toUInt8]) (head_cells 1 E.uri.size (by omega)) (Nat.le_refl _) (by simp [byteCells,maxLen])
  simpa [byteCells] using h
 have hwn:IntKind.u8.wrap (E.uri.size:Int)=(E.uri.size:Int):=by unfold IntKind.wrap;simp [IntKind.signed,IntKind.bits];omega
 obtain ⟨i0,hi,hq0,hqz,hq2⟩:=byteInfo
 have HO3:=Lib.hid ho3
 have HB4:=Lib.hid hb4
 have hz4:=hb4.size
 have hbx3:=(hb3.block _ (by omega)).trans HBX.out
 have HBX3:=Lib.hid ((hb4.block _ (by omega)).trans hbx3)
 have z:=box3 HBX3.out
 rw [hW4] at z
 obtain ⟨z0,z1,z2⟩:=z
 clear y0 y1 y2
 obtain ⟨y0,y1,y2⟩:=box3 hbx3
 clear hr hok hb3 hn3 hbx3 ho3 hb4
 go_upto_region 7 with (at_builtin;rw [←hW4];refine wpList_app_str _ rfl _ _ 24 9 rfl w3.heap.size 5 i0 Tryz.underlying24 Tryz.underlying9 hi hq0 hqz hq2 _ _ rfl hown4 E.uri rfl (by simp [byteCells];omega) hz4 ?_)
 intro v5 w5 hown5 hg5 hat5
 rw [strCells_bytes,←byteCells_append] at hown5
 obtain ⟨A5,c5,rfl⟩:=hown5.form
 try rw [←hW4] at hg5
 have hbx5:=(hg5.block w.heap.size (lt_blk HBX3.out) (fun e=>by simp [Value.ownBlock] at e;have:=lt_blk HBX.out;have:=HB3.out.size;omega)).trans HBX3.out
 have HG5:Hid (Below w3.heap.size w3 w5):=Lib.hid (HB4.out.grown hg5 hz4 (fun k e=>(hown4.lt k e).1))
 have hz5:=HG5.out.size
 obtain ⟨nn,hnn⟩:∃ nn:Nat,E.ver=(nn:Int):=⟨E.ver.toNat,by omega⟩
 have HNN:=Lib.hid hnn
 have hnl:nn < 1073741824:=by omega
 have hsg4:Seg (w5.alloc (.cells #[.int .u8 ((nn:Int) / 16777216),.int .u8 ((nn:Int) / 65536 % 256),.int .u8 ((nn:Int) / 256 % 256),.int .u8 ((nn:Int) % 256)] 5)) (w5.heap.size+1) (.slice (some ⟨w5.heap.size,0,none⟩) 4 4) (byteCells (be4Q nn)):=by
  have h:=Seg.new w5 5 #[.int .u8 ((nn:Int) / 16777216),.int .u8 ((nn:Int) / 65536 % 256),.int .u8 ((nn:Int) / 256 % 256),.int .u8 ((nn:Int) % 256)] (byteCells (be4Q nn)) (by
   rw [cells_be4 nn (by omega),show (nn:Int) / 16777216 % 256=(nn:Int) / 16777216 by omega]) (by rw [byteCells_length,be4_lengthQ];simp [maxLen])
  rw [byteCells_length,be4_lengthQ] at h
  exact h
 have hal5:∀ o,Par.Own (w5.alloc o) w3.heap.size 5 (.slice A5 (byteCells ([1,E.uri.size.toUInt8] ++ E.uri.data.toList)).length c5) (byteCells ([1,E.uri.size.toUInt8] ++ E.uri.data.toList)):=fun o=>hown5.alloc o
 have hu:=ba_len E.uri
 have HUS:=Lib.hid hus
 have HW5:=Lib.hid hown5
 obtain ⟨x0,x1,x2⟩:=box3 hbx5
 rw [hnn] at x1
 clear y0 y1 y2 z0 z1 z2 hown5 hbx5 hwn hi hq0 hqz hq2 hown4 hg5 hat5 hv0 hv1
 go_upto_region 8 with (at_builtin;refine wpList_app _ rfl _ _ _ rfl w3.heap.size 5 _ byteE _ _ rfl (hal5 _) _ _ _ rfl hsg4 (one_bytes _) ?c1 ?c2 ?_)
 case c1=>simp [byteCells,be4Q];omega
 case c2=>simp;omega
 intro v6 w6 hown6 hg6 hat6
 rw [←byteCells_append] at hown6
 obtain ⟨A6,c6,rfl⟩:=hown6.form
 have hg56:Below w3.heap.size w5 w6:=below_grow (Below.refl _ _) hz5 _ hg6 (fun g e=>(HW5.out.lt g e).1)
 have hb6:Below w3.heap.size w3 w6:=HG5.out.trans hg56
 have hsg6:=(HO3.out.below hb6).seg
 have HB6:=Lib.hid hb6
 have hz6:=hb6.size
 have hlen:(byteCells (([1,E.uri.size.toUInt8] ++ E.uri.data.toList) ++ be4Q nn)).length+(byteCells (encX E.exs)).length≤2147483648:=by
  have:=encX_len (okE_exs HOK.out)
  have:=HUS.out
  simp only [byteCells_length,List.length_append,be4_lengthQ,List.length_cons,List.length_nil,hu]
  omega
 clear hb6 hsg4 hg6 hat6 x0 x1 x2 hal5
 go_wp2_with (at_builtin;refine wpList_app _ rfl _ _ _ rfl w3.heap.size 5 _ byteE _ _ rfl hown6 _ _ _ rfl hsg6 (one_bytes _) hlen hz6 ?_;intro v7 w7 hown7 hg7 hat7)
 rw [←byteCells_append] at hown7
 have HE:Hid (P (.returned (.tuple #[v7,.int .i64 0])) w7):=Lib.hid (by
  rw [HPO.out]
  refine ⟨v7,by rw [HOK.out];rfl,HB3.out.trans ((HB6.out.grown hg7 hz6 (fun g e=>(hown6.lt g e).1)).mono HB3.out.size),fun _=>?_,fun h=>(by rw [HOK.out] at h;cases h)⟩
  have:recE E=(([1,E.uri.size.toUInt8] ++ E.uri.data.toList) ++ be4Q nn) ++ encX E.exs:=by
   unfold recE;rw [HNN.out,Int.toNat_natCast];simp only [List.append_assoc]
  rw [this]
  exact hown7.base HB3.out.size)
 clear hown7 hg7 hat7
 go_wp2
 exact HE.out
end Go.Proofs.YtaalbcfpacpgfaaGreat
