/- Merged of X16 X17 X18 X19 X20 X21. -/
import Derived.BigRegion
import Derived.Deep.CutBlock
import Derived.Test.YtaalbcfpacpgfaaGreatZaXA
set_option linter.unusedVariables false
set_option linter.unusedSimpArgs false
namespace Go.Proofs.YtaalbcfpacpgfaaGreat
open Go.RowKit Go.Lib Go.Vfs Go.Par Go.Typ Go.Shelf
theorem slice_lhB (A:Option Addr) (n c l h:Nat) (w:World) (hlh:l≤h) (hh:h≤c):(Instr.slice 24 (.slice A n c) (some (.int .i64 (l:Int))) (some (.int .i64 (h:Int))) none).run Tryz.prog w=.ok (sliced A l h c 1) w:=by
 have ht':Tryz.prog.underlying 24=some (.slice (Tryz.prog.elem 24)):=by simp [Program.elem,Tryz.underlying24]
 have he:Tryz.prog.elem 24=5:=by simp [Program.elem,Tryz.underlying24]
 rw [run_slice_lh w 24 _ _ _ ht' .i64 .i64 _ _ (by omega) (by omega) (by omega),he,Tryz.sizeOf5]
 simp [Result.andThen]
theorem seg_sub {w:World} {B:Nat} {A:Option Addr} {c:Nat} {b:List UInt8} (hs:Seg w B (.slice A b.length c) (byteCells b)) (l h:Nat) (hlh:l≤h) (hh:h≤b.length) :
  h≤c∧∃ A2 c2,sliced A l h c 1=.slice A2 (h - l) c2∧Seg w B (.slice A2 (h - l) c2) (byteCells ((b.drop l).take (h - l))):=by
 obtain ⟨A0,c0,e,h2,h3,h4⟩:=hs
 rw [byteCells_length] at e h2 h4
 injection e with e1 _ e3
 subst e1 e3
 have hl:((b.drop l).take (h - l)).length=h - l:=by simp;omega
 refine ⟨by omega,_,_,rfl,_,_,by rw [byteCells_length,hl],by rw [byteCells_length,hl];omega,by omega,fun hp=>?_⟩
 rw [byteCells_length,hl] at hp
 obtain ⟨g,off,e,hb,hc⟩:=h4 (by omega)
 rw [e,if_neg (by omega)]
 refine ⟨g,off+l * 1,by simp [Addr.add],hb,fun i hi=>?_⟩
 rw [byteCells_length,hl] at hi
 rw [show off+l * 1+i=off+(l+i) by omega,hc (l+i) (by omega)]
 unfold byteCells
 rw [List.getElem?_map,List.getElem?_map,List.getElem?_take,if_pos (by omega),List.getElem?_drop]
theorem conv_segB {w:World} {B:Nat} {v:Value} {l:List UInt8} (h:Seg w B v (Lib.byteCells l)):(convert 24 9 v).run Tryz.prog w=.ok (.string ⟨l.toArray⟩) w:=by
 obtain ⟨A,c,rfl,hc,hm,hat⟩:=h
 rw [Lib.byteCells_length] at hat ⊢
 rcases A with _|a
 ·have h0:l.length=0:=by
   rcases Nat.eq_zero_or_pos l.length with h|h
   ·exact h
   ·obtain ⟨_,_,e,_⟩:=hat h;cases e
  have:l=[]:=List.eq_nil_of_length_eq_zero h0
  subst this
  rw [List.length_nil,run_convert_bytes_string _ 24 9 5 none 0 c Tryz.underlying24 Tryz.underlying5 Tryz.underlying9]
  rfl
 ·refine run_convert_bytes_back (P:=Tryz.prog) w 24 9 5 a c l Tryz.underlying24 Tryz.underlying5 Tryz.underlying9 (fun j hj=>?_)
  obtain ⟨b,off,e,_,hcell⟩:=hat (by omega)
  cases e
  rw [add_addr,hcell j hj]
  simp [Lib.byteCells,hj]
def srO (v:Value) (a:Nat) (q:Int) (bad:Bool):Obj:=.cells #[v,.int .i64 a,.int .i64 q,.bool bad] 187 (0,0)
structure SR (L:List UInt8) (B p:Nat) (v:Value) (a:Nat) (q:Int) (bad:Bool) (W:World):Prop where
 blk:W.heap[p]? = some (srO v a q bad)
 seg:Seg W B v (byteCells L)
 low:B≤p
 at_:a≤L.length
section
variable {L:List UInt8} {B p:Nat} {v:Value} {a:Nat} {q:Int} {bad:Bool} {W W':World}
theorem SR.cells (h:SR L B p v a q bad W):(W.cell? ⟨p,0,none⟩=some v∧W.cell? ⟨p,1,none⟩=some (.int .i64 a)∧W.cell? ⟨p,2,none⟩=some (.int .i64 q)∧W.cell? ⟨p,3,none⟩=some (.bool bad)):=box4 h.blk
theorem SR.frozen (h:SR L B p v a q bad W):(W.frozen? ⟨p,0,none⟩=false∧W.frozen? ⟨p,1,none⟩=false∧W.frozen? ⟨p,2,none⟩=false∧W.frozen? ⟨p,3,none⟩=false):=box4_frozen h.blk
theorem SR.lt (h:SR L B p v a q bad W):p < W.heap.size:=lt_blk h.blk
theorem SR.keep (h:SR L B p v a q bad W) (hk:∀ g,g≤p→W'.heap[g]? = W.heap[g]?):SR L B p v a q bad W' :=
 ⟨(hk p (Nat.le_refl _)).trans h.blk,h.seg.keep fun b o hb=>World.cell?_of_block (w:=W) (a:=⟨b,o,none⟩) (hk b (by have:=h.low;omega)),h.low,h.at_⟩
theorem SR.drewN (h:SR L B p v a q bad W) (n:Nat):SR L B p v a q bad (W.drewN n):=h.keep fun _ _=>rfl
theorem SR.put (h:SR L B p v a q bad W) {i:Nat} {x:Value} {a':Nat} {q':Int} {bad':Bool} (ha:a'≤L.length)
  (hb:(W.setCell ⟨p,i,none⟩ x).heap[p]? = some (srO v a' q' bad')):SR L B p v a' q' bad' (W.setCell ⟨p,i,none⟩ x) :=
 ⟨hb,h.seg.keep fun b o hb=>World.cell?_of_block (w:=W) (a:=⟨b,o,none⟩) (Below.heap_setCell _ _ _ _ (by have:=h.low;show b≠p;omega)),h.low,ha⟩
theorem SR.setAt (h:SR L B p v a q bad W) {a':Nat} (ha:a'≤L.length):SR L B p v a' q bad (W.setCell ⟨p,1,none⟩ (.int .i64 a')) :=
 h.put ha (by simpa [srO] using cells_put h.blk 1 (.int .i64 a'))
theorem SR.setParts (h:SR L B p v a q bad W) (q':Int):SR L B p v a q' bad (W.setCell ⟨p,2,none⟩ (.int .i64 q')) :=
 h.put h.at_ (by simpa [srO] using cells_put h.blk 2 (.int .i64 q'))
theorem SR.setBad (h:SR L B p v a q bad W) (bad':Bool):SR L B p v a q bad' (W.setCell ⟨p,3,none⟩ (.bool bad')) :=
 h.put h.at_ (by simpa [srO] using cells_put h.blk 3 (.bool bad'))
end
theorem setp_kept {p i:Nat} {w W:World} (h:Kept (· = p) w W) (x:Value):Kept (· = p) w (W.setCell ⟨p,i,none⟩ x) :=
 Kept.setCell (F:=(· = p)) (p:=⟨p,i,none⟩) h (.inl rfl) x
set_option maxRecDepth 20000 in
set_option maxHeartbeats 2000000 in
theorem take_bad (L:List UInt8) (B p:Nat) (v:Value) (a n:Nat) (q:Int) (bad:Bool) (w:World) (h:SR L B p v a q bad w) (hn:n≤255) (hb:bad=true∨L.length < a+n) :
  Calls Tryz.prog 151 #[.pointer (some ⟨p,0,none⟩),.int .i64 n] w fun e w'=>e=.returned (.slice none 0 0)∧SR L B p v a q true w'∧Kept (· = p) w w':=by
 obtain ⟨A,c,rfl,hc,hm,_⟩:=h.seg.open_bytes
 obtain ⟨y0,y1,y2,y3⟩:=h.cells
 obtain ⟨q0,q1,q2,q3⟩:=h.frozen
 have ha:=h.at_
 have HH:=Lib.hid h
 clear h
 cases bad with
 | true =>
  clear hb
  go_enter Tryz.func151,Tryz.ntmps151
  go_wp2
  go_quiet (fail)
  go_wp2
  go_ret
  exact ⟨rfl,(HH.out.drewN _).setBad true,setp_kept ((Kept.refl _ _).drewN _) _⟩
 | false =>
  have hg:L.length < a+n:=by simpa using hb
  have hd:((L.length:Int) - (a:Int) < (n:Int)):=by omega
  clear hb
  go_enter Tryz.func151,Tryz.ntmps151
  go_wp2
  go_quiet (fail)
  go_wp2
  go_ret
  exact ⟨rfl,(HH.out.drewN _).setBad true,setp_kept ((Kept.refl _ _).drewN _) _⟩
set_option maxRecDepth 20000 in
set_option maxHeartbeats 2000000 in
theorem take_ok (L:List UInt8) (B p:Nat) (v:Value) (a n:Nat) (q:Int) (w:World) (h:SR L B p v a q false w) (hn:n≤255) (hb:a+n≤L.length) :
  Calls Tryz.prog 151 #[.pointer (some ⟨p,0,none⟩),.int .i64 n] w fun e w'=>∃ u,e=.returned u∧Seg w' B u (byteCells ((L.drop a).take n))∧SR L B p v (a+n) q false w'∧Kept (· = p) w w':=by
 obtain ⟨A,c,rfl,hc,hm,_⟩:=h.seg.open_bytes
 obtain ⟨hc2,A2,c2,hsl,hsg⟩:=seg_sub h.seg a (a+n) (by omega) hb
 have hrun:=fun w'=>slice_lhB A L.length c a (a+n) w' (by omega) hc2
 rw [hsl] at hrun
 rw [Nat.add_sub_cancel_left] at hrun hsg
 obtain ⟨y0,y1,y2,y3⟩:=h.cells
 obtain ⟨q0,q1,q2,q3⟩:=h.frozen
 have hcast:((a+n:Nat):Int)=(a:Int)+(n:Int):=by omega
 have hdf:(a:Int)+(n:Int) - (n:Int)=(a:Int):=by omega
 have hnd:¬ ((L.length:Int) - (a:Int) < (n:Int)):=by omega
 have hb64:L.length≤9223372036854775807:=by omega
 have HH:=Lib.hid h;have HSG:=Lib.hid hsg;have HSL:=Lib.hid hsl;have HRUN:=Lib.hid hrun;have HC:=Lib.hid hcast
 clear hsg hsl h hrun hcast
 go_enter Tryz.func151,Tryz.ntmps151
 go_wp2
 go_quiet (fail)
 go_wp2
 obtain ⟨W1,hW1⟩:∃ W1,W1=(w.drewN nq).setCell ⟨p,1,none⟩ (.int .i64 ((a:Int)+(n:Int))):=⟨_,rfl⟩
 rw [←hW1]
 have hs1:SR L B p (.slice A L.length c) (a+n) q false W1:=by rw [hW1,←HC.out];exact (HH.out.drewN nq).setAt hb
 have hk1:Kept (· = p) w W1:=by rw [hW1];exact setp_kept ((Kept.refl _ _).drewN nq) _
 have hsg1:Seg W1 B (sliced A a (a+n) c 1) (byteCells ((L.drop a).take n)):=by
  rw [HSL.out,Nat.add_sub_cancel_left]
  exact HSG.out.keep fun b o hb=>by
   rw [hW1];exact World.cell?_of_block (w:=w) (a:=⟨b,o,none⟩) (Below.heap_setCell (w.drewN nq) _ _ _ (by have:=HH.out.low;show b≠p;omega))
 obtain ⟨x0,x1,x2,x3⟩:=hs1.cells
 rw [HC.out] at x1
 have HE:Hid (((c=a→Seg W1 B (.slice A n 0) (byteCells ((L.drop a).take n)))∧(¬ c=a→Seg W1 B (.slice (A.map (·.add a)) n (c - a)) (byteCells ((L.drop a).take n))))∧SR L B p (.slice A L.length c) (a+n) q false W1∧Kept (· = p) w W1):=Lib.hid ⟨⟨fun e=>by subst e;simpa [sliced] using hsg1,fun e=>by simpa [sliced,e] using hsg1⟩,hs1,hk1⟩
 clear y0 y1 y2 y3 q0 q1 q2 q3 hW1 hs1 hk1 hsg1
 go_region
 go_wp2
 ·go_ret
  have e:c=a:=by assumption
  have h2:=HE.out.2.1
  rw [e] at h2
  exact ⟨_,rfl,(HE.out.1.1 e).drewN 1,h2.drewN 1,HE.out.2.2.drewN 1⟩
 ·go_ret
  exact ⟨_,rfl,(HE.out.1.2 (by assumption)).drewN 1,HE.out.2.1.drewN 1,HE.out.2.2.drewN 1⟩
end Go.Proofs.YtaalbcfpacpgfaaGreat
namespace Go.Typ
def numB (l:List UInt8):Nat:=l.foldl (fun s x=>s * 256+x.toNat) 0
theorem numB_lt:∀ l:List UInt8,numB l < 256 ^ l.length:=by
 have key:∀ (l:List UInt8) (s:Nat),l.foldl (fun s x=>s * 256+x.toNat) s < (s+1) * 256 ^ l.length:=by
  intro l
  induction l with
  | nil=>intro s;simp
  | cons x l ih =>
   intro s
   have h:=ih (s * 256+x.toNat)
   have hx:=x.toNat_lt
   rw [List.foldl_cons,List.length_cons,Nat.pow_succ]
   refine Nat.lt_of_lt_of_le h ?_
   rw [Nat.mul_comm (256 ^ l.length) 256,←Nat.mul_assoc]
   exact Nat.mul_le_mul_right _ (by omega)
 intro l
 have:=key l 0
 simpa [numB] using this
theorem numB_snoc (l:List UInt8) (x:UInt8):numB (l ++ [x])=numB l * 256+x.toNat:=by simp [numB]
end Go.Typ
namespace Go.Proofs.YtaalbcfpacpgfaaGreat
open Go.RowKit Go.Lib Go.Vfs Go.Par Go.Typ Go.Shelf
theorem or_low8 (x y:Nat) (hx:x < 2 ^ 40) (hy:y < 256):bits .or .i64 ((x * 256:Nat):Int) (y:Int)=((x * 256+y:Nat):Int):=by
 have e1:(BitVec.ofInt 64 ((x * 256:Nat):Int)).toNat=x * 256:=by rw [BitVec.ofInt_natCast,BitVec.toNat_ofNat];exact Nat.mod_eq_of_lt (by omega)
 have e2:(BitVec.ofInt 64 (y:Int)).toNat=y:=by rw [BitVec.ofInt_natCast,BitVec.toNat_ofNat];exact Nat.mod_eq_of_lt (by omega)
 have hj:x * 256 ||| y=x * 256+y:=nat_join 8 (x * 256) y (by omega) (by omega)
 show IntKind.i64.wrap ((BitVec.ofInt 64 ((x * 256:Nat):Int) ||| BitVec.ofInt 64 (y:Int)).toNat:Int)=_
 rw [BitVec.toNat_or,e1,e2,hj]
 unfold IntKind.wrap
 simp [IntKind.signed,IntKind.bits]
 omega
set_option maxRecDepth 20000 in
set_option maxHeartbeats 2000000 in
theorem number_go (L:List UInt8) (B p:Nat) (v:Value) (a n:Nat) (q:Int) (bad:Bool) (w:World) (h:SR L B p v a q bad w) (hn:n≤4) (h1:1≤n) :
  Calls Tryz.prog 125 #[.pointer (some ⟨p,0,none⟩),.int .i64 n] w fun e w'=>(bad=false∧a+n≤L.length∧e=.returned (.int .i64 (numB ((L.drop a).take n):Nat))∧SR L B p v (a+n) q false w'∧Kept (· = p) w w') ∨
   ((bad=true∨L.length < a+n)∧e=.returned (.int .i64 0)∧SR L B p v a q true w'∧Kept (· = p) w w'):=by
 by_cases hb:bad=true∨L.length < a+n
 ·have HT:=Lib.hid (take_bad L B p v a n q bad w h (by omega) hb)
  clear h
  go_enter Tryz.func125,Tryz.ntmps125
  go_wp2_with fail
  refine HT.out.mono ?_
  rintro e w2 ⟨rfl,hs,hk⟩
  have HE:=Lib.hid (And.intro hs hk)
  clear hs hk
  go_wp2
  go_loopw [5,12] (fun sv iv W=>sv=.int .i64 0∧iv=.int .i64 0∧W=w2) (fun _ _ _=>0)
  case atStart=>exact ⟨rfl,rfl,rfl⟩
  case round =>
   obtain ⟨rfl,rfl,rfl⟩:=hrel
   go_wp2
   go_ret
   exact .inr ⟨hb,rfl,HE.out.1,HE.out.2⟩
 ·obtain ⟨hf,hl⟩:bad=false∧a+n≤L.length:=by
   constructor
   ·simpa using fun h=>hb (.inl h)
   ·apply Nat.le_of_not_lt;exact fun h=>hb (.inr h)
  subst hf
  have HT:=Lib.hid (take_ok L B p v a n q w h (by omega) hl)
  clear h hb
  go_enter Tryz.func125,Tryz.ntmps125
  go_wp2_with fail
  refine HT.out.mono ?_
  rintro e w2 ⟨u,rfl,hg,hs,hk⟩
  obtain ⟨A,c,rfl,hc,hm,hat⟩:=hg.open_bytes
  have hlen:((L.drop a).take n).length=n:=by simp;omega
  obtain ⟨M,hM⟩:∃ M,M=(L.drop a).take n:=⟨_,rfl⟩
  rw [←hM] at hlen hat hc
  rw [←hM]
  rw [hlen] at hat hc ⊢
  have HE:=Lib.hid (And.intro hs hk);have HAT:=Lib.hid hat;have HLEN:=Lib.hid hlen;have HMM:=Lib.hid hM
  clear hs hk hat hg hM hlen
  go_wp2
  go_loopw [5,12] (fun sv iv W=>∃ k:Nat,k≤n∧iv=.int .i64 k∧sv=.int .i64 (numB (M.take k):Nat)∧∃ m,W=w2.drewN m) (fun _ iv _=>n - (RowKit.intOf iv).toNat)
  case atStart=>exact ⟨0,by omega,rfl,rfl,0,rfl⟩
  case round =>
   obtain ⟨k,hk,rfl,rfl,m,rfl⟩:=hrel
   by_cases hlt:k < n
   ·obtain ⟨b,off,x,rfl,hbb,hcl,hx,HX⟩:=(HAT.out.drewN m).byte hlt
    have hnl:=numB_lt (M.take k)
    have htl:(M.take k).length=k:=by rw [List.length_take];have:=HLEN.out;omega
    have hp:256 ^ k≤256 ^ 3:=Nat.pow_le_pow_right (by omega) (by omega)
    rw [htl] at hnl
    have hnx:numB (M.take (k+1))=numB (M.take k) * 256+x:=by
     have hkm:k < M.length:=by have:=HLEN.out;omega
     have hx':=HX.out
     rw [List.getD_eq_getElem?_getD,List.getElem?_eq_getElem hkm] at hx'
     rw [List.take_succ_eq_append_getElem hkm,numB_snoc,←hx']
     rfl
    generalize numB (M.take k)=s at *
    have hor:=or_low8 s x (by omega) hx
    have HNX:=Lib.hid hnx
    clear hnx htl
    rw [show ((s * 256:Nat):Int)=(s:Int) * 256 by omega] at hor
    have hs2:(s:Int)≤16777216:=by
     have:(256:Nat) ^ 3=16777216:=by decide
     omega
    clear hnl hp
    go_wp2
    go_roundw
    case rel=>exact ⟨k+1,by omega,by go_num,by rw [HNX.out];go_num,m,rfl⟩
    case measure=>simp [RowKit.intOf];omega
   ·have hkn:k=n:=by omega
    subst hkn
    have hM:M.take k=M:=List.take_of_length_le (by rw [HLEN.out];exact Nat.le_refl _)
    rw [hM]
    go_wp2
    go_ret
    exact .inl ⟨trivial,hl,by rw [←HMM.out];rfl,HE.out.1.drewN _,HE.out.2.drewN _⟩
end Go.Proofs.YtaalbcfpacpgfaaGreat
namespace Go.Typ
open Go.RowKit Go.Lib Go.Vfs Go.Par
def nmR:List UInt8→Option (ByteArray × List UInt8)
 | []=>none
 | n :: l=>if n.toNat≤l.length then some (⟨(l.take n.toNat).toArray⟩,l.drop n.toNat) else none
def lstA (g:Nat→List UInt8→Option (Ty × Nat × List UInt8)):Nat→List Ty→Nat→List UInt8→Option (List Ty × Nat × List UInt8)
 | 0,xs,q,l=>some (xs,q,l)
 | n+1,xs,q,l=>match g q l with
  | none=>none
  | some (T,q,l)=>lstA g n (xs ++ [T]) q l
def argsR (g:Nat→List UInt8→Option (Ty × Nat × List UInt8)) (k:Int) (s:ByteArray) (q:Nat):List UInt8→Option (Ty × Nat × List UInt8)
 | []=>none
 | n :: l=>match lstA g n.toNat [] q l with
  | none=>none
  | some (ts,q,l)=>some (.mk k 0 s ts,q,l)
def kindR (g:Nat→List UInt8→Option (Ty × Nat × List UInt8)) (q x:Nat) (l:List UInt8):Option (Ty × Nat × List UInt8) :=
 if x=1 then (if 4≤l.length then some (.mk 1 (numB (l.take 4):Nat) ⟨#[]⟩ [],q,l.drop 4) else none)
  else if x=2 then (match nmR l with
   | none=>none
   | some (s,l)=>argsR g 2 s q l)
  else if x=3∨x=4 then argsR g (x:Int) ⟨#[]⟩ q l else none
def bodyR (g:Nat→List UInt8→Option (Ty × Nat × List UInt8)) (q:Nat):List UInt8→Option (Ty × Nat × List UInt8)
 | []=>none
 | k :: l=>kindR g q k.toNat l
def typR:Nat→Nat→List UInt8→Option (Ty × Nat × List UInt8)
 | 0,_,_=>none
 | f+1,q,l=>if 300 < q+1 then none else bodyR (typR f) (q+1) l
def exsR:Nat→List Ex→List UInt8→Option (List Ex × List UInt8)
 | 0,xs,l=>some (xs,l)
 | n+1,xs,l=>match nmR l with
  | none=>none
  | some (s,l)=>match typR 301 0 l with
   | none=>none
   | some (T,_,l)=>exsR n (xs ++ [⟨s,T⟩]) l
end Go.Typ
namespace Go.Proofs.YtaalbcfpacpgfaaGreat
open Go.RowKit Go.Lib Go.Vfs Go.Par Go.Typ Go.Shelf
def RSQ (L:List UInt8) (B p:Nat) (v:Value) (l:List UInt8) (q:Nat) (bad:Bool) (W:World):Prop:=∃ a,L.drop a=l∧SR L B p v a (q:Int) bad W
section
variable {L:List UInt8} {B p:Nat} {v:Value} {l:List UInt8} {q:Nat} {bad:Bool} {W W':World}
theorem RSQ.keep (h:RSQ L B p v l q bad W) (hk:∀ g,g≤p→W'.heap[g]? = W.heap[g]?):RSQ L B p v l q bad W':=by
 obtain ⟨a,h1,h2⟩:=h;exact ⟨a,h1,h2.keep hk⟩
theorem RSQ.drewN (h:RSQ L B p v l q bad W) (n:Nat):RSQ L B p v l q bad (W.drewN n):=h.keep fun _ _=>rfl
theorem RSQ.lt (h:RSQ L B p v l q bad W):p < W.heap.size:=by obtain ⟨a,_,h2⟩:=h;exact h2.lt
theorem RSQ.cells (h:RSQ L B p v l q bad W):∃ a:Nat,(L.length=a↔l=[])∧a≤L.length∧(W.cell? ⟨p,0,none⟩=some v∧W.cell? ⟨p,1,none⟩=some (.int .i64 a)∧W.cell? ⟨p,2,none⟩=some (.int .i64 (q:Int))∧W.cell? ⟨p,3,none⟩=some (.bool bad)):=by
 obtain ⟨a,h1,h2⟩:=h
 refine ⟨a,?_,h2.at_,h2.cells⟩
 rw [←h1,List.drop_eq_nil_iff]
 have:=h2.at_
 omega
theorem RSQ.frozen (h:RSQ L B p v l q bad W):(W.frozen? ⟨p,0,none⟩=false∧W.frozen? ⟨p,1,none⟩=false∧W.frozen? ⟨p,2,none⟩=false∧W.frozen? ⟨p,3,none⟩=false):=by
 obtain ⟨a,_,h2⟩:=h;exact h2.frozen
theorem RSQ.setParts (h:RSQ L B p v l q bad W) (q':Nat):RSQ L B p v l q' bad (W.setCell ⟨p,2,none⟩ (.int .i64 (q':Int))):=by
 obtain ⟨a,h1,h2⟩:=h;exact ⟨a,h1,h2.setParts q'⟩
theorem RSQ.setBad (h:RSQ L B p v l q bad W) (bad':Bool):RSQ L B p v l q bad' (W.setCell ⟨p,3,none⟩ (.bool bad')):=by
 obtain ⟨a,h1,h2⟩:=h;exact ⟨a,h1,h2.setBad bad'⟩
end
theorem drop_room {L l:List UInt8} {a n:Nat} (h:L.drop a=l) (ha:a≤L.length):(L.length < a+n↔l.length < n):=by
 rw [←h,List.length_drop];omega
theorem number_anyQ (L:List UInt8) (B p:Nat) (v:Value) (l:List UInt8) (n q:Nat) (bad:Bool) (w:World) (h:RSQ L B p v l q bad w) (hn:n≤4) (h1:1≤n) :
  Calls Tryz.prog 125 #[.pointer (some ⟨p,0,none⟩),.int .i64 n] w fun e w'=>∃ (x:Nat) (l':List UInt8) (bad':Bool),e=.returned (.int .i64 (x:Nat))∧RSQ L B p v l' q bad' w'∧Kept (· = p) w w'∧(bad'=false→bad=false∧n≤l.length∧x=numB (l.take n)∧l'=l.drop n)∧(bad'=true→(bad=true∨l.length < n)∧x=0):=by
 obtain ⟨a,e,hs⟩:=h
 have hr:=drop_room (n:=n) e hs.at_
 refine (number_go L B p v a n q bad w hs hn h1).mono ?_
 rintro e' w' (⟨h1,h2,rfl,h4,h5⟩|⟨h1,rfl,h4,h5⟩)
 ·refine ⟨_,l.drop n,false,rfl,⟨a+n,by rw [←e,List.drop_drop],h4⟩,h5,fun _=>⟨h1,?_,by rw [e],rfl⟩,fun h=>by cases h⟩
  rw [←e,List.length_drop];omega
 ·exact ⟨0,l,true,rfl,⟨a,e,h4⟩,h5,(fun h=>by cases h),fun _=>⟨h1.imp_right hr.1,rfl⟩⟩
theorem take_any (L:List UInt8) (B p:Nat) (v:Value) (l:List UInt8) (n q:Nat) (bad:Bool) (w:World) (h:RSQ L B p v l q bad w) (hn:n≤255) :
  Calls Tryz.prog 151 #[.pointer (some ⟨p,0,none⟩),.int .i64 n] w fun e w'=>∃ (u:Value) (m l':List UInt8) (bad':Bool),e=.returned u∧Seg w' B u (byteCells m)∧RSQ L B p v l' q bad' w'∧Kept (· = p) w w'∧(bad'=false→bad=false∧n≤l.length∧m=l.take n∧l'=l.drop n)∧(bad'=true→(bad=true∨l.length < n)∧m=[]):=by
 obtain ⟨a,e,hs⟩:=h
 have hr:=drop_room (n:=n) e hs.at_
 by_cases hb:bad=true∨L.length < a+n
 ·refine (take_bad L B p v a n q bad w hs hn hb).mono ?_
  rintro e' w' ⟨rfl,h4,h5⟩
  exact ⟨_,[],l,true,rfl,Seg.nil _ _,⟨a,e,h4⟩,h5,(fun h=>by cases h),fun _=>⟨hb.imp_right hr.1,rfl⟩⟩
 ·obtain ⟨hf,hl⟩:bad=false∧a+n≤L.length:=⟨by simpa using fun h=>hb (.inl h),Nat.le_of_not_lt fun h=>hb (.inr h)⟩
  subst hf
  refine (take_ok L B p v a n q w hs hn hl).mono ?_
  rintro e' w' ⟨u,rfl,hg,h4,h5⟩
  rw [e] at hg
  refine ⟨u,l.take n,l.drop n,false,rfl,hg,⟨a+n,by rw [←e,List.drop_drop],h4⟩,h5,fun _=>⟨rfl,?_,rfl,rfl⟩,fun h=>by cases h⟩
  rw [←e,List.length_drop];omega
set_option maxRecDepth 20000 in
set_option maxHeartbeats 2000000 in
theorem srname_any (L:List UInt8) (B p:Nat) (v:Value) (l:List UInt8) (q:Nat) (bad:Bool) (w:World) (h:RSQ L B p v l q bad w) :
  Calls Tryz.prog 126 #[.pointer (some ⟨p,0,none⟩)] w fun e w'=>∃ (s:ByteArray) (l':List UInt8) (bad':Bool),e=.returned (.string s)∧s.size≤255∧RSQ L B p v l' q bad' w'∧Kept (· = p) w w'∧(bad'=false→bad=false∧nmR l=some (s,l'))∧(bad'=true→bad=true∨nmR l=none):=by
 have HN:=Lib.hid (number_anyQ L B p v l 1 q bad w h (by decide) (by decide))
 clear h
 go_enter Tryz.func126,Tryz.ntmps126
 go_wp2_with fail
 refine HN.out.mono ?_
 rintro e w2 ⟨x,l1,bad1,rfl,h1,k1,ok1,no1⟩
 have hx:x≤255:=by
  cases bad1 with
  | true=>have:=(no1 rfl).2;omega
  | false =>
   obtain ⟨_,h2,h3,_⟩:=ok1 rfl
   have:=numB_lt (l.take 1)
   rw [List.length_take,Nat.min_eq_left h2,←h3] at this
   omega
 have HT:=Lib.hid (take_any L B p v l1 x q bad1 w2 h1 hx)
 have K1:=Lib.hid k1;have OK1:=Lib.hid ok1;have NO1:=Lib.hid no1
 clear h1 k1 ok1 no1 HN
 go_wp2_with fail
 refine HT.out.mono ?_
 rintro e w3 ⟨u,m,l2,bad2,rfl,hg,h2,k2,ok2,no2⟩
 have hcv:=conv_segB hg
 have hml:m.length≤255:=by
  cases bad2 with
  | true=>rw [(no2 rfl).2];simp
  | false=>rw [(ok2 rfl).2.2.1,List.length_take];omega
 have HE:Hid (RSQ L B p v l2 q bad2 w3∧Kept (· = p) w w3∧(bad2=false→bad=false∧nmR l=some (⟨m.toArray⟩,l2))∧(bad2=true→bad=true∨nmR l=none)):=Lib.hid (by
  refine ⟨h2,K1.out.trans' k2,fun e=>?_,fun e=>?_⟩
  ·obtain ⟨e1,h3,h4,h5⟩:=ok2 e
   obtain ⟨e2,h6,h7,h8⟩:=OK1.out e1
   refine ⟨e2,?_⟩
   cases l with
   | nil=>simp at h6
   | cons c l =>
    have hc:x=c.toNat:=by rw [h7];simp [numB]
    have h8:l1=l:=h8
    subst h8
    rw [nmR,←hc,if_pos h3,h4,h5]
  ·obtain ⟨e1,_⟩:=no2 e
   cases bad1 with
   | true =>
    refine (NO1.out rfl).1.imp_right fun h=>?_
    have:l=[]:=List.eq_nil_of_length_eq_zero (by omega)
    rw [this,nmR]
   | false =>
    obtain ⟨e2,h6,h7,h8⟩:=OK1.out rfl
    right
    cases l with
    | nil=>rfl
    | cons c l =>
     have hc:x=c.toNat:=by rw [h7];simp [numB]
     have h8:l1=l:=h8
     subst h8
     rw [nmR,←hc,if_neg]
     rcases e1 with e1|e1
     ·cases e1
     ·omega)
 have hms:((⟨m.toArray⟩:ByteArray)).size≤255:=by show m.toArray.size≤255;simpa using hml
 have HMS:=Lib.hid hms
 generalize (⟨m.toArray⟩:ByteArray)=s at *
 clear hg h2 k2 ok2 no2 hml hms
 go_wp2
 go_ret
 exact ⟨s,l2,bad2,rfl,HMS.out,HE.out.1,HE.out.2.1,HE.out.2.2.1,HE.out.2.2.2⟩
theorem ownsRow_form {w:World} {B e k n:Nat} {v:Value} {xs:List Value} (h:w.ownsRow B e k v n xs):∃ A c,v=.slice A n c:=by
 rcases h.2 with ⟨e,h0⟩|⟨g,cap,cur,e,_⟩
 ·exact ⟨none,0,by rw [e,h0]⟩
 ·exact ⟨_,cap,e⟩
structure TI (w:World) (L:List UInt8) (B p:Nat) (v:Value) (l:List UInt8) (q:Nat) (bad:Bool) (tb:Nat) (k num:Int) (s:ByteArray) (av:Value) (W:World):Prop where
 rs:RSQ L B p v l q bad W
 res:W.heap[w.heap.size]? = some (.cells #[.int .i64 0,.int .i64 0,.string ⟨#[]⟩,.slice none 0 0] 61 (0,0))
 box:W.heap[tb]? = some (.cells #[.int .i64 k,.int .i64 num,.string s,av] 61 (0,0))
 kept:Kept (· = p) w W
 tlt:w.heap.size < tb
 plt:p < w.heap.size
section
variable {w:World} {L:List UInt8} {B p:Nat} {v:Value} {l:List UInt8} {q:Nat} {bad:Bool} {tb:Nat} {k num:Int} {s:ByteArray} {av:Value} {W W':World}
theorem TI.lt (h:TI w L B p v l q bad tb k num s av W):tb < W.heap.size:=lt_blk h.box
theorem TI.call (h:TI w L B p v l q bad tb k num s av W) (hk:Kept (· = p) W W') {l':List UInt8} {q':Nat} {bad':Bool} (hr:RSQ L B p v l' q' bad' W'):TI w L B p v l' q' bad' tb k num s av W':=by
 have h1:=h.lt;have h2:=h.tlt;have h3:=h.plt
 exact ⟨hr,(hk.block _ (by omega) (by omega)).trans h.res,(hk.block _ h1 (by omega)).trans h.box,h.kept.trans' hk,h2,h3⟩
theorem TI.drewN (h:TI w L B p v l q bad tb k num s av W) (n:Nat):TI w L B p v l q bad tb k num s av (W.drewN n):=⟨h.rs.drewN n,h.res,h.box,h.kept.drewN n,h.tlt,h.plt⟩
theorem TI.setBad (h:TI w L B p v l q bad tb k num s av W) (bad':Bool):TI w L B p v l q bad' tb k num s av (W.setCell ⟨p,3,none⟩ (.bool bad')) :=
 h.call (setp_kept (Kept.refl _ _) _) (h.rs.setBad bad')
theorem TI.setBox (h:TI w L B p v l q bad tb k num s av W) {i:Nat} {x:Value} {num':Int} {s':ByteArray} {av':Value}
  (hb:(W.setCell ⟨tb,i,none⟩ x).heap[tb]? = some (.cells #[.int .i64 k,.int .i64 num',.string s',av'] 61 (0,0))):TI w L B p v l q bad tb k num' s' av' (W.setCell ⟨tb,i,none⟩ x):=by
 have h1:=h.lt;have h2:=h.tlt;have h3:=h.plt
 refine ⟨h.rs.keep fun g hg=>Below.heap_setCell _ _ _ _ (by show g≠tb;omega),?_,hb,?_,h2,h3⟩
 ·rw [Below.heap_setCell _ _ _ _ (by show w.heap.size≠tb;omega)];exact h.res
 ·exact Kept.setCell (F:=(· = p)) (p:=⟨tb,i,none⟩) h.kept (.inr (by show w.heap.size≤tb;omega)) x
theorem TI.setNum (h:TI w L B p v l q bad tb k num s av W) (n':Int):TI w L B p v l q bad tb k n' s av (W.setCell ⟨tb,1,none⟩ (.int .i64 n')):=h.setBox (by simpa using cells_put h.box 1 (.int .i64 n'))
theorem TI.setName (h:TI w L B p v l q bad tb k num s av W) (s':ByteArray):TI w L B p v l q bad tb k num s' av (W.setCell ⟨tb,2,none⟩ (.string s')):=h.setBox (by simpa using cells_put h.box 2 (.string s'))
theorem TI.setArgs (h:TI w L B p v l q bad tb k num s av W) (av':Value):TI w L B p v l q bad tb k num s av' (W.setCell ⟨tb,3,none⟩ av'):=h.setBox (by simpa using cells_put h.box 3 av')
end
theorem TI.grown {w:World} {L:List UInt8} {B p:Nat} {v:Value} {l:List UInt8} {q:Nat} {bad:Bool} {tb:Nat} {k num:Int} {s:ByteArray} {av:Value} {W W':World} {o:Obj} {row:Option Nat} (h:TI w L B p v l q bad tb k num s av W)
  (hg:(W.alloc o).grownBy W' row) (hr:∀ g,row=some g→tb < g):TI w L B p v l q bad tb k num s av W':=by
 have h1:=h.lt;have h2:=h.tlt;have h3:=h.plt
 have key:∀ g,g≤tb→W'.heap[g]? = W.heap[g]?:=fun g hle=>(hg.block g (by simp;omega) (fun e=>by have:=hr g e.symm;omega)).trans (Below.heap_alloc _ _ _ (by omega))
 refine ⟨h.rs.keep fun g hg=>key g (by omega),(key _ (by omega)).trans h.res,(key _ (Nat.le_refl _)).trans h.box,(h.kept.alloc o).grown hg fun g e=>.inr (by have:=hr g e;omega),h2,h3⟩
def TPost (L:List UInt8) (B p:Nat) (v:Value) (q:Nat) (bd:Bool) (X:Option (Ty × Nat × List UInt8)) (w:World) (e:Ending) (w':World):Prop :=
 ∃ (T:Ty) (A:Option Addr) (c:Nat) (l':List UInt8) (q':Nat) (bad':Bool),e=.returned (tyV T.kind T.num T.name A T.args.length c)∧TyAt (fun g=>w.heap.size≤g∧g < w'.heap.size) w' (tyV T.kind T.num T.name A T.args.length c) T ∧
  T.args.length≤255∧RSQ L B p v l' q' bad' w'∧Kept (· = p) w w'∧(bad'=false→bd=false∧X=some (T,q',l')∧q < q'∧q'≤300)∧(bad'=true→bd=true∨X=none)
theorem TI.fin {w:World} {L:List UInt8} {B p:Nat} {v:Value} {l:List UInt8} {q:Nat} {bad:Bool} {tb:Nat} {k num:Int} {s:ByteArray} {A:Option Addr} {c:Nat} {ts:List Ty} {W:World} (h:TI w L B p v l q bad tb k num s (.slice A ts.length c) W)
  (hT:TyAt (fun g=>tb < g∧g < W.heap.size) W (tyV k num s A ts.length c) (.mk k num s ts)) (hl:ts.length≤255) (q0:Nat) (bd:Bool) (X:Option (Ty × Nat × List UInt8))
  (h1:bad=false→bd=false∧X=some (.mk k num s ts,q,l)∧q0 < q∧q≤300) (h2:bad=true→bd=true∨X=none) :
  ∃ Wf,Wf=((((W.setCell ⟨w.heap.size,0,none⟩ (.int .i64 k)).setCell ⟨w.heap.size,1,none⟩ (.int .i64 num)).setCell ⟨w.heap.size,2,none⟩ (.string s)).setCell ⟨w.heap.size,3,none⟩ (.slice A ts.length c)) ∧
   Wf.heap[w.heap.size]? = some (.cells #[.int .i64 k,.int .i64 num,.string s,.slice A ts.length c] 61 (0,0))∧TPost L B p v q0 bd X w (.returned (tyV k num s A ts.length c)) Wf:=by
 obtain ⟨Wf,hWf,hbx,hkf⟩:=end4 (.int .i64 k) (.int .i64 num) (.string s) (.slice A ts.length c) h.res
 have hz:=h.lt;have ht:=h.tlt;have hp:=h.plt
 have hzf:=hkf.size
 refine ⟨Wf,hWf,hbx,.mk k num s ts,A,c,l,q,bad,rfl,hT.keep fun g hg=>⟨⟨by omega,by omega⟩,hkf.block g hg.2 (by omega)⟩,hl,h.rs.keep fun g hg=>hkf.block g (by omega) (by omega),?_,h1,h2⟩
 refine ⟨hkf.os.trans h.kept.os,hkf.tape.trans h.kept.tape,hkf.output.trans h.kept.output,by have:=h.kept.size;omega,fun g hg hp=>?_⟩
 exact (hkf.block g (by omega) (by omega)).trans (h.kept.block g hg hp)
set_option maxRecDepth 20000 in
set_option maxHeartbeats 4000000 in
theorem srtyp_any (L:List UInt8) (B p:Nat) (v:Value) (f:Nat):∀ (l:List UInt8) (q:Nat) (bad:Bool) (w:World),RSQ L B p v l q bad w→q≤300→301≤f+q →
  Calls Tryz.prog 127 #[.pointer (some ⟨p,0,none⟩)] w (TPost L B p v q bad (typR f q l) w):=by
 induction f with
 | zero=>intro l q bad w h h1 h2;omega
 | succ f ih =>
  intro l q bad w h hq hf
  have IH:=Lib.hid ih
  clear ih
  obtain ⟨Y,hY⟩:∃ Y,Y=typR (f+1) q l:=⟨_,rfl⟩
  have HY:=Lib.hid hY
  rw [←hY]
  clear hY
  have hpl:=h.lt
  have hne:¬ (p=w.heap.size):=by omega
  have hne2:¬ (w.heap.size=p):=by omega
  obtain ⟨W1,hW1⟩:∃ W1,W1=(w.setCell ⟨p,2,none⟩ (.int .i64 ((q+1:Nat):Int))).alloc zero4:=⟨_,rfl⟩
  have hsz:(w.setCell ⟨p,2,none⟩ (.int .i64 ((q+1:Nat):Int))).heap.size=w.heap.size:=by simp [World.setCell]
  have hb0:∀ W:World,Below W.heap.size W (W.alloc zero4):=fun W=>(Below.refl _ _).alloc (Nat.le_refl _) _
  have hr1:RSQ L B p v l (q+1) bad W1:=by
   obtain ⟨a,e,hs⟩:=h
   rw [hW1]
   exact ⟨a,e,(hs.setParts _).keep fun g hg=>(hb0 _).block g (by omega)⟩
  have hk1:Kept (· = p) w W1:=by rw [hW1];exact (setp_kept (Kept.refl _ _) _).alloc _
  have hres1:W1.heap[w.heap.size]? = some (.cells #[.int .i64 0,.int .i64 0,.string ⟨#[]⟩,.slice none 0 0] 61 (0,0)):=by
   rw [hW1]
   have:=heap_alloc_new (w.setCell ⟨p,2,none⟩ (.int .i64 ((q+1:Nat):Int))) zero4
   rw [hsz] at this
   exact this
  obtain ⟨a,-,-,y0,y1,y2,y3⟩:=h.cells
  obtain ⟨q0,q1,q2,q3⟩:=h.frozen
  have HR1:=Lib.hid hr1;have HK1:=Lib.hid hk1;have HRS:=Lib.hid hres1
  have hcast:((q+1:Nat):Int)=(q:Int)+1:=by omega
  rw [hcast] at hW1
  obtain ⟨a1,-,-,z0,z1,z2,z3⟩:=hr1.cells
  rw [hcast] at z2
  clear h hr1 hk1 hres1 hcast hsz hb0
  obtain ⟨bad1,hb1⟩:∃ bad1,bad1=(bad || decide (300 < q+1)):=⟨_,rfl⟩
  have HB1:=Lib.hid hb1
  go_enter Tryz.func127,Tryz.ntmps127
  go_upto_region 2 with fail
  rw [show (w.setCell ⟨p,2,none⟩ (.int .i64 ((q:Int)+1))).alloc (.cells #[.int .i64 0,.int .i64 0,.string ⟨#[]⟩,.slice none 0 0] 61)=W1 from hW1.symm]
  clear hW1 y0 y1 y2 y3 q0 q1 q2 q3
  go_upto_if 17 with fail
  clear z0 z1 z2 z3
  go_cut [] from 18 to 20 (fun wx=>Hid (RSQ L B p v l (q+1) bad1 wx∧Kept (· = p) w wx∧wx.heap[w.heap.size]? = some (.cells #[.int .i64 0,.int .i64 0,.string ⟨#[]⟩,.slice none 0 0] 61 (0,0))))
  case first =>
   obtain ⟨a1,-,-,z0,z1,z2,z3⟩:=HR1.out.cells
   obtain ⟨q0,q1,q2,q3⟩:=HR1.out.frozen
   rw [show ((q+1:Nat):Int)=(q:Int)+1 by omega] at z2
   by_cases hg:300 < q+1
   ·have hgi:(300:Int) < (q:Int)+1:=by omega
    have hbt:bad1=true:=by rw [HB1.out,decide_eq_true hg,Bool.or_true]
    have HE:Hid (RSQ L B p v l (q+1) bad1 (W1.setCell ⟨p,3,none⟩ (.bool true))∧Kept (· = p) w (W1.setCell ⟨p,3,none⟩ (.bool true))∧(W1.setCell ⟨p,3,none⟩ (.bool true)).heap[w.heap.size]? = some (.cells #[.int .i64 0,.int .i64 0,.string ⟨#[]⟩,.slice none 0 0] 61 (0,0))) :=
     Lib.hid ⟨by rw [hbt];exact HR1.out.setBad true,setp_kept HK1.out _,(Below.heap_setCell _ _ _ _ (by show w.heap.size≠p;omega)).trans HRS.out⟩
    clear hbt
    go_wp2
    go_meet
    exact HE
   ·have hgi:¬ ((300:Int) < (q:Int)+1):=by omega
    have hbt:bad1=bad:=by rw [HB1.out,decide_eq_false hg,Bool.or_false]
    have HE:Hid (RSQ L B p v l (q+1) bad1 W1∧Kept (· = p) w W1∧W1.heap[w.heap.size]? = some (.cells #[.int .i64 0,.int .i64 0,.string ⟨#[]⟩,.slice none 0 0] 61 (0,0))) :=
     Lib.hid ⟨by rw [hbt];exact HR1.out,HK1.out,HRS.out⟩
    clear hbt
    go_wp2
    go_meet
    exact HE
  case rest =>
   obtain ⟨hr,hk,hs⟩:=hcut.out
   have HN:=Lib.hid (number_anyQ L B p v l 1 (q+1) bad1 wc hr (by decide) (by decide))
   have HK:=Lib.hid hk;have HS:=Lib.hid hs
   have HX:Hid ((bad1=false→bad=false∧Y=bodyR (typR f) (q+1) l∧q+1≤300)∧(bad1=true→bad=true∨Y=none)):=Lib.hid (by
    rw [HB1.out,HY.out,typR]
    constructor
    ·intro e
     rw [Bool.or_eq_false_iff] at e
     have:=of_decide_eq_false e.2
     exact ⟨e.1,by rw [if_neg this],by omega⟩
    ·intro e
     rw [Bool.or_eq_true] at e
     exact e.imp_right fun e=>by rw [if_pos (of_decide_eq_true e)])
   clear hr hk hs hcut HR1 HK1 HRS HB1 HY hb1
   go_wp2_with fail
   refine HN.out.mono ?_
   rintro e w2 ⟨x,l1,bad2,rfl,h2,k2,ok2,no2⟩
   have hx:x≤255:=by
    cases bad2 with
    | true=>have:=(no2 rfl).2;omega
    | false =>
     obtain ⟨_,h2,h3,_⟩:=ok2 rfl
     have:=numB_lt (l.take 1)
     rw [List.length_take,Nat.min_eq_left h2,←h3] at this
     omega
   go_upto_region 5 with fail
   obtain ⟨W3,hW3⟩:∃ W3,W3=w2.alloc (.cells #[.int .i64 (x:Int),.int .i64 0,.string ⟨#[]⟩,.slice none 0 0] 61):=⟨_,rfl⟩
   rw [←hW3]
   have hb3:Below w2.heap.size w2 W3:=by rw [hW3];exact (Below.refl _ _).alloc (Nat.le_refl _) _
   have hT3:TI w L B p v l1 (q+1) bad2 w2.heap.size (x:Int) 0 ⟨#[]⟩ (.slice none 0 0) W3:=by
    have hz:=HK.out.size
    have hzc:=lt_blk HS.out
    have hz2:=k2.size
    refine ⟨h2.keep fun g hg=>hb3.block g (by omega),(hb3.block _ (by omega)).trans ((k2.block _ (by omega) (by omega)).trans HS.out),by rw [hW3];exact heap_alloc_new _ _,(HK.out.trans' k2).trans' (Kept.of_below hb3),by omega,hpl⟩
   have HX2:Hid ((bad2=false→bad=false∧Y=kindR (typR f) (q+1) x l1∧q+1≤300)∧(bad2=true→(bad=true∨Y=none)∧x=0)):=Lib.hid (by
    constructor
    ·intro e
     obtain ⟨e1,h3,h4,h5⟩:=ok2 e
     obtain ⟨e2,h6,h7⟩:=HX.out.1 e1
     refine ⟨e2,?_,h7⟩
     cases l with
     | nil=>simp at h3
     | cons c l =>
      have hc:x=c.toNat:=by rw [h4];simp [numB]
      have h5:l1=l:=h5
      rw [h6,bodyR,hc,h5]
    ·intro e
     refine ⟨?_,(no2 e).2⟩
     cases bad1 with
     | true=>exact HX.out.2 rfl
     | false =>
      rcases (no2 e).1 with h|h
      ·cases h
      ·obtain ⟨e2,h6,h7⟩:=HX.out.1 rfl
       have:l=[]:=List.eq_nil_of_length_eq_zero (by omega)
       right
       rw [h6,this,bodyR])
   have hw2:p < w2.heap.size:=by have:=HK.out.size;have:=k2.size;omega
   generalize w2.heap.size=tb at *
   have HT3:=Lib.hid hT3
   obtain ⟨y0,y1,y2,y3⟩:=box4 hT3.box
   clear hT3 hb3 h2 k2 ok2 no2 hW3 HX HN HK HS
   go_upto_block 0 with fail
   go_cut [] from 29 to 42 (fun wx=>∃ (s:ByteArray) (l3:List UInt8) (bad3:Bool),Hid (TI w L B p v l3 (q+1) bad3 tb (x:Int) 0 s (.slice none 0 0) wx)∧s.size≤255∧Hid ((bad3=false→bad=false∧Y=argsR (typR f) (x:Int) s (q+1) l3∧q+1≤300)∧(bad3=true→bad=true∨Y=none)))
   case first =>
    obtain ⟨f0,f1,f2,f3⟩:=box4_frozen HT3.out.box
    obtain ⟨a3,-,-,r0,r1,r2,r3⟩:=HT3.out.rs.cells
    obtain ⟨s0,s1,s2,s3⟩:=HT3.out.rs.frozen
    by_cases x1:x=1
    ·subst x1
     have HNM:=Lib.hid (number_anyQ L B p v l1 4 (q+1) bad2 W3 HT3.out.rs (by decide) (by decide))
     go_wp2_with fail
     refine HNM.out.mono ?_
     rintro e w4 ⟨x4,l4,bad4,rfl,h4,k4,ok4,no4⟩
     have HT4:=Lib.hid (HT3.out.call k4 h4)
     have hT5:=HT4.out.setNum (x4:Int)
     obtain ⟨Wf,hWf,hbx,hpost⟩:=TI.fin (A:=none) (c:=0) (ts:=[]) (k:=1) hT5 (TyAt.leaf _ _ 1 (x4:Int) ⟨#[]⟩ none 0 (by simp [maxLen]) (by decide)) (by decide) q bad Y
      (by
       intro e
       obtain ⟨e1,h5,h6,h7⟩:=ok4 e
       obtain ⟨e2,h8,h9⟩:=HX2.out.1 e1
       refine ⟨e2,?_,by omega,h9⟩
       rw [h8,kindR,if_pos rfl,if_pos h5,h6,h7])
      (by
       intro e
       cases bad2 with
       | true=>exact (HX2.out.2 rfl).1
       | false =>
        rcases (no4 e).1 with h|h
        ·cases h
        ·obtain ⟨e2,h6,h7⟩:=HX2.out.1 rfl
         right
         rw [h6,kindR,if_pos rfl,if_neg (by omega)])
     simp only [List.length_nil] at hWf hbx
     have HW:=Lib.hid hWf;have HBXF:=Lib.hid hbx;have HPO:=Lib.hid hpost
     clear y0 y1 y2 y3 f0 f1 f2 f3 r0 r1 r2 r3 s0 s1 s2 s3 h4 k4 ok4 no4 hT5 hWf hbx hpost
     obtain ⟨y0,y1,y2,y3⟩:=box4 HT4.out.box
     obtain ⟨f0,f1,f2,f3⟩:=box4_frozen HT4.out.box
     obtain ⟨r0,r1,r2,r3⟩:=box4 HT4.out.res
     obtain ⟨s0,s1,s2,s3⟩:=box4_frozen HT4.out.res
     have htl:=HT4.out.tlt
     have hne3:¬ (w.heap.size=tb):=by omega
     have hne4:¬ (tb=w.heap.size):=by omega
     go_wp2
     rw [←HW.out]
     obtain ⟨x0,x1,x2,x3⟩:=box4 HBXF.out
     refine bodyPost_ret (v:=.agg #[.int .i64 1,.int .i64 x4,.string ⟨#[]⟩,.slice none 0 0]) (by simp [results,Tryz.results127,go_sem,x0,x1,x2,x3]) rfl ?_
     exact HPO.out
    by_cases x2:x=2
    ·subst x2
     have HNM:=Lib.hid (srname_any L B p v l1 (q+1) bad2 W3 HT3.out.rs)
     go_wp2_with fail
     refine HNM.out.mono ?_
     rintro e w4 ⟨s,l4,bad4,rfl,hs4,h4,k4,ok4,no4⟩
     have HT4:=Lib.hid (HT3.out.call k4 h4)
     have HE:Hid ((bad4=false→bad=false∧Y=argsR (typR f) 2 s (q+1) l4∧q+1≤300)∧(bad4=true→bad=true∨Y=none)):=Lib.hid (by
      constructor
      ·intro e
       obtain ⟨e1,h5⟩:=ok4 e
       obtain ⟨e2,h6,h7⟩:=HX2.out.1 e1
       refine ⟨e2,?_,h7⟩
       rw [h6,kindR,if_neg (by decide),if_pos rfl,h5]
      ·intro e
       cases bad2 with
       | true=>exact (HX2.out.2 rfl).1
       | false =>
        rcases no4 e with h|h
        ·cases h
        ·obtain ⟨e2,h6,h7⟩:=HX2.out.1 rfl
         right
         rw [h6,kindR,if_neg (by decide),if_pos rfl,h])
     have HT5:=Lib.hid (HT4.out.setName s)
     clear y0 y1 y2 y3 f0 f1 f2 f3 r0 r1 r2 r3 s0 s1 s2 s3 h4 k4 ok4 no4
     obtain ⟨y0,y1,y2,y3⟩:=box4 HT4.out.box
     obtain ⟨f0,f1,f2,f3⟩:=box4_frozen HT4.out.box
     go_wp2
     go_meet
     exact ⟨s,l4,bad4,HT5,hs4,HE⟩
    by_cases x3:x=3∨x=4
    ·have HE:Hid ((bad2=false→bad=false∧Y=argsR (typR f) (x:Int) ⟨#[]⟩ (q+1) l1∧q+1≤300)∧(bad2=true→bad=true∨Y=none)):=Lib.hid (by
      refine ⟨fun e=>?_,fun e=>(HX2.out.2 e).1⟩
      obtain ⟨e2,h6,h7⟩:=HX2.out.1 e
      exact ⟨e2,by rw [h6,kindR,if_neg x1,if_neg x2,if_pos x3],h7⟩)
     rcases x3 with rfl|rfl
     ·go_wp2
      go_meet
      exact ⟨⟨#[]⟩,l1,bad2,HT3,by decide,HE⟩
     ·go_wp2
      go_meet
      exact ⟨⟨#[]⟩,l1,bad2,HT3,by decide,HE⟩
    ·have HE:Hid ((true=false→bad=false∧Y=argsR (typR f) (x:Int) ⟨#[]⟩ (q+1) l1∧q+1≤300)∧(true=true→bad=true∨Y=none)):=Lib.hid (by
      refine ⟨fun e=>(by cases e),fun _=>?_⟩
      cases bad2 with
      | true=>exact (HX2.out.2 rfl).1
      | false =>
       obtain ⟨e2,h6,h7⟩:=HX2.out.1 rfl
       right
       rw [h6,kindR,if_neg x1,if_neg x2,if_neg x3])
     have HT5:=Lib.hid (HT3.out.setBad true)
     have g1:((x:Int) == 1)=false:=by simp;omega
     have g2:((x:Int) == 2)=false:=by simp;omega
     have g3:((x:Int) == 3)=false:=by simp;omega
     have g4:((x:Int) == 4)=false:=by simp;omega
     go_wp2
     go_meet
     exact ⟨⟨#[]⟩,l1,true,HT5,by decide,Lib.hid ⟨HE.out.1,fun _=>HE.out.2 trivial⟩⟩
   case rest =>
    obtain ⟨s,l3,bad3,HTC,hsz,HXC⟩:=hcut
    clear y0 y1 y2 y3 HX2 HT3
    have HN:=Lib.hid (number_anyQ L B p v l3 1 (q+1) bad3 wc HTC.out.rs (by decide) (by decide))
    go_wp2_with fail
    refine HN.out.mono ?_
    rintro e w5 ⟨n,l5,bad5,rfl,h5,k5,ok5,no5⟩
    have hn:n≤255:=by
     cases bad5 with
     | true=>have:=(no5 rfl).2;omega
     | false =>
      obtain ⟨_,h2,h3,_⟩:=ok5 rfl
      have:=numB_lt (l3.take 1)
      rw [List.length_take,Nat.min_eq_left h2,←h3] at this
      omega
    obtain ⟨R,hR⟩:∃ R,R=lstA (typR f) n [] (q+1) l5:=⟨_,rfl⟩
    have HX5:Hid ((bad5=false→bad=false∧(∀ ts q' l',R=some (ts,q',l')→Y=some (.mk (x:Int) 0 s ts,q',l'))∧(R=none→Y=none)∧q+1≤300)∧(bad5=true→(bad=true∨Y=none)∧n=0)):=Lib.hid (by
     constructor
     ·intro e
      obtain ⟨e1,h3,h4,h6⟩:=ok5 e
      obtain ⟨e2,h7,h8⟩:=HXC.out.1 e1
      refine ⟨e2,?_,?_,h8⟩
      all_goals
       cases l3 with
       | nil=>simp at h3
       | cons c l3 =>
        have hc:n=c.toNat:=by rw [h4];simp [numB]
        have h6:l5=l3:=h6
        rw [hc,h6] at hR
        intros
        rename_i hRR
        rw [h7,argsR,←hR,hRR]
     ·intro e
      refine ⟨?_,(no5 e).2⟩
      cases bad3 with
      | true=>exact HXC.out.2 rfl
      | false =>
       rcases (no5 e).1 with h|h
       ·cases h
       ·obtain ⟨e2,h7,h8⟩:=HXC.out.1 rfl
        have:l3=[]:=List.eq_nil_of_length_eq_zero (by omega)
        right
        rw [h7,this,argsR])
    have HT5:=Lib.hid (HTC.out.call k5 h5)
    have HR5:=Lib.hid hR
    clear h5 k5 ok5 no5 HTC HXC HN hR
    go_wp2
    go_loopw [5] (fun iv W=>∃ (k qk:Nat) (lk:List UInt8) (badk:Bool) (ts:List Ty) (us:List Value) (av:Value),k≤n∧iv=.int .i64 k∧Hid (TI w L B p v lk qk badk tb (x:Int) 0 s av W)∧Hid (RowK 61 4 TyAt (tb+1) (tb+1) W ts av us)∧ts.length=k ∧
     Hid ((badk=false→bad5=false∧lstA (typR f) (n - k) ts qk lk=R∧q+1≤qk∧qk≤300)∧(badk=true→bad5=true∨R=none))) (fun iv _=>n - (RowKit.intOf iv).toNat)
    case atStart =>
     refine ⟨0,q+1,l5,bad5,[],[],_,by omega,rfl,HT5,Lib.hid (RowK.nil _),rfl,Lib.hid ⟨fun e=>⟨e,?_,by omega,(HX5.out.1 e).2.2.2⟩,fun e=>.inl e⟩⟩
     rw [HR5.out];rfl
    case round =>
     obtain ⟨k,qk,lk,badk,ts,us,av,hk,rfl,HT,HR,htl,HXK⟩:=hrel
     obtain ⟨ak,-,-,r0,r1,r2,r3⟩:=HT.out.rs.cells
     obtain ⟨y0,y1,y2,y3⟩:=box4 HT.out.box
     by_cases hgo:k < n∧badk=false
     ·obtain ⟨hlt,rfl⟩:=hgo
      obtain ⟨e5,hlst,hqk1,hqk2⟩:=HXK.out.1 rfl
      have hia:=IH.out lk qk false wr.drew (HT.out.rs.drewN 1) hqk2 (by omega)
      have HCA:Hid (Calls Tryz.prog 127 #[.pointer (some ⟨p,0,none⟩)] wr.drew fun e w'=>∃ (T:Ty) (A:Option Addr) (c:Nat),e=.returned (.agg #[.int .i64 T.kind,.int .i64 T.num,.string T.name,.slice A T.args.length c])∧Hid (∃ (l':List UInt8) (q':Nat) (bad':Bool),TyAt (fun g=>wr.heap.size≤g∧g < w'.heap.size) w' (tyV T.kind T.num T.name A T.args.length c) T∧RSQ L B p v l' q' bad' w'∧Kept (· = p) wr.drew w'∧(bad'=false→typR f qk lk=some (T,q',l')∧qk < q'∧q'≤300)∧(bad'=true→typR f qk lk=none))∧tb < w'.heap.size ∧
        w'.cell? ⟨tb,3,none⟩=some av∧w'.frozen? ⟨tb,3,none⟩=false∧w'.ownsRow (tb+1) 61 4 av k (us.flatMap flatC)):=Lib.hid (by
       refine hia.mono ?_
       rintro e w' ⟨T,A,c,l',q',bad',rfl,hT,hTl,hrs,hkk,okk,nok⟩
       have hti:=(HT.out.drewN 1).call hkk hrs
       refine ⟨T,A,c,rfl,Lib.hid ⟨l',q',bad',hT,hrs,hkk,fun e=>(okk e).2,fun e=>(nok e).resolve_left (by simp)⟩,hti.lt,(box4 hti.box).2.2.2,(box4_frozen hti.box).2.2.2,?_⟩
       have:=HT.out.tlt;have:=HT.out.plt
       have hr2:=RowK.above (R:=TyAt) TyAt.keep (w':=w') HR.out (Lo:=tb+1) (Nat.le_refl _) (Nat.le_refl _) (fun g h1 h2=>hkk.block g h2 (by omega)) hkk.size
       have:=hr2.own
       rw [htl] at this
       exact this)
      obtain ⟨us',hus⟩:∃ us',us'=us.flatMap flatC:=⟨_,rfl⟩
      rw [←hus] at HCA
      have htw:=HT.out.lt
      obtain ⟨Aav,cav,rfl,hcav,-⟩:=HR.out.form
      rw [htl] at hcav y3 HCA HR HT
      have HNX:Hid (∀ (T:Ty) (A:Option Addr) (c:Nat) (w6:World) (v7:Value) (w7:World),Hid (∃ (l':List UInt8) (q':Nat) (bad':Bool),TyAt (fun g=>wr.heap.size≤g∧g < w6.heap.size) w6 (tyV T.kind T.num T.name A T.args.length c) T∧RSQ L B p v l' q' bad' w6∧Kept (· = p) wr.drew w6∧(bad'=false→typR f qk lk=some (T,q',l')∧qk < q'∧q'≤300)∧(bad'=true→typR f qk lk=none)) →
        w7.ownsRow (tb+1) 61 4 v7 (k+1) (us' ++ [.int .i64 T.kind,.int .i64 T.num,.string T.name,.slice A T.args.length c])→(w6.alloc (.cells #[.int .i64 T.kind,.int .i64 T.num,.string T.name,.slice A T.args.length c] 61)).grownBy w7 (Value.slice Aav k cav).ownBlock→(v7.ownBlock=(Value.slice Aav k cav).ownBlock∨v7.ownBlock=some (w6.alloc (.cells #[.int .i64 T.kind,.int .i64 T.num,.string T.name,.slice A T.args.length c] 61)).heap.size) →
        ∃ (q2:Nat) (l2:List UInt8) (bad2:Bool) (ts2:List Ty) (us2:List Value),Hid (TI w L B p v l2 q2 bad2 tb (x:Int) 0 s v7 (w7.setCell ⟨tb,3,none⟩ v7))∧Hid (RowK 61 4 TyAt (tb+1) (tb+1) (w7.setCell ⟨tb,3,none⟩ v7) ts2 v7 us2)∧ts2.length=k+1 ∧
         Hid ((bad2=false→bad5=false∧lstA (typR f) (n - (k+1)) ts2 q2 l2=R∧q+1≤q2∧q2≤300)∧(bad2=true→bad5=true∨R=none))):=Lib.hid (by
       rintro T A c w6 v7 w7 HTP hown7 hg7 hat7
       obtain ⟨l',q',bad',hT,hrs,hkk,okk,nok⟩:=HTP.out
       have h1:=HT.out.tlt;have h2:=HT.out.plt
       have hz6:wr.heap.size≤w6.heap.size:=hkk.size
       have hti:=(HT.out.drewN 1).call hkk hrs
       have hti7:=hti.grown hg7 fun g e=>by have:=(HR.out.lt g e).1;omega
       have hr6:=RowK.above (R:=TyAt) TyAt.keep (w':=w6) HR.out (Lo:=tb+1) (Nat.le_refl _) (Nat.le_refl _) (fun g h1 h2=>hkk.block g h2 (by omega)) hkk.size
       have hr7:=RowK.next (R:=TyAt) TyAt.keep hr6 (u:=tyV T.kind T.num T.name A T.args.length c) (x:=T) (v':=v7) (w3:=w7) hT (fun g hg=>⟨by omega,hg.2,fun e=>by have:=(HR.out.lt g e).2;omega⟩) rfl _ (by rw [htl,←hus];exact hown7) hg7 hat7
       refine ⟨q',l',bad',ts ++ [T],us ++ [tyV T.kind T.num T.name A T.args.length c],Lib.hid (hti7.setArgs v7),Lib.hid ?_,by simp [htl],Lib.hid ⟨fun e=>?_,fun e=>?_⟩⟩
       ·exact RowK.above (R:=TyAt) TyAt.keep hr7 (Lo:=tb+1) (Nat.le_refl _) (Nat.le_refl _) (fun g h1 h2=>Below.heap_setCell _ _ _ _ (by show g≠tb;omega)) (by simp [World.setCell])
       ·obtain ⟨e1,e2,e3⟩:=okk e
        refine ⟨e5,?_,by omega,e3⟩
        rw [show n - k=(n - (k+1))+1 by omega,lstA,e1] at hlst
        exact hlst
       ·right
        rw [show n - k=(n - (k+1))+1 by omega,lstA,nok e] at hlst
        exact hlst.symm)
      clear hia hlst hus
      go_wp2_with fail
      refine wp_region_held (S:=fun _:World=>True) (by kernel_rfl) ?_
      refine takeD (i:=0) (s:=57) (v:=Value.pointer (some ⟨tb,3,none⟩)) rfl rfl (by kernel_rfl) (by kernel_rfl) (by kernel_rfl) (fun _ _ _ h=>h) (Or.inl ⟨by rfl,fun w' hS=>by go_simp⟩) trivial ?_
      try simp only [List.setIfInBounds_toArray,List.set_cons_zero,List.set_cons_succ]
      refine takeD (i:=2) (s:=59) (v:=Value.pointer (some ⟨p,0,none⟩)) rfl rfl (by kernel_rfl) (by kernel_rfl) (by kernel_rfl) (fun _ _ _ h=>h) (Or.inl ⟨by rfl,fun w' hS=>by go_simp⟩) trivial ?_
      try simp only [List.setIfInBounds_toArray,List.set_cons_zero,List.set_cons_succ]
      refine wpAnyH_all (rs:=[1,3]) (by kernel_rfl) (by simp) ?_
      intro i hi
      simp only [List.mem_cons,List.not_mem_nil,or_false] at hi
      rcases hi with rfl|rfl
      ·refine wpOp_ofQ rfl rfl (fun K hK=>?_)
       go_simp
       refine hK _ _ ⟨trivial,?_⟩
       clear hK K
       try simp only [List.setIfInBounds_toArray,List.set_cons_zero,List.set_cons_succ]
       refine wpAnyH_all (rs:=[3]) (by kernel_rfl) (by simp) ?_
       intro i hi
       simp only [List.mem_cons,List.not_mem_nil,or_false] at hi
       subst hi
       refine wpOp_ofQ rfl rfl (fun K hK=>?_)
       go_simp
       refine HCA.out.mono ?_
       rintro e w6 ⟨T,A,c,rfl,HTP,htw6,u3,v3,hown⟩
       refine hK _ _ ⟨trivial,?_⟩
       clear hK K
       try simp only [List.setIfInBounds_toArray,List.set_cons_zero,List.set_cons_succ]
       refine wpAnyH_all (rs:=[4]) (by kernel_rfl) (by simp) ?_
       intro i hi
       simp only [List.mem_cons,List.not_mem_nil,or_false] at hi
       subst hi
       refine wpOp_ofQ rfl rfl (fun K hK=>?_)
       go_simp
       refine hK _ _ ⟨trivial,?_⟩
       clear hK K
       try simp only [List.setIfInBounds_toArray,List.set_cons_zero,List.set_cons_succ]
       refine wpAnyH_all (rs:=[5]) (by kernel_rfl) (by simp) ?_
       intro i hi
       simp only [List.mem_cons,List.not_mem_nil,or_false] at hi
       subst hi
       refine wpOp_ofQ rfl rfl (fun K hK=>?_)
       refine wp_appK _ (.tmp 58) (.tmp 61) 59 rfl (tb+1) 61 4 tyE (.slice Aav k cav) k us' rfl (World.ownsRow.alloc hown _) ⟨w6.heap.size,0,none⟩ 1 1 [.int .i64 T.kind,.int .i64 T.num,.string T.name,.slice A T.args.length c] rfl rfl (cells_new _ _ _) (one4 _ _ _ _ _ _) (by omega) (by simp;omega) (fun v7 w7 hown7 hg7 hat7=>?_)
       obtain ⟨A7,c7,rfl⟩:=ownsRow_form hown7
       have hb7:w7.heap[tb]? = w6.heap[tb]?:=(hg7.block tb (by simp;omega) (fun e=>by have:=(hown.lt _ e.symm).1;omega)).trans (Below.heap_alloc _ _ _ htw6)
       have u7:=(World.cell?_of_block (w:=w6) (a:=⟨tb,3,none⟩) hb7).trans u3
       have v7f:=(World.frozen?_of_block (w:=w6) (a:=⟨tb,3,none⟩) hb7).trans v3
       clear hb7
       refine hK _ _ ⟨trivial,?_⟩
       clear hK K
       try simp only [List.setIfInBounds_toArray,List.set_cons_zero,List.set_cons_succ]
       refine takeD (i:=6) (s:=63) (v:=Value.pointer (some ⟨tb,3,none⟩)) rfl rfl (by kernel_rfl) (by kernel_rfl) (by kernel_rfl) (fun _ _ _ h=>h) (Or.inl ⟨by rfl,fun w' hS=>by go_simp⟩) trivial ?_
       try simp only [List.setIfInBounds_toArray,List.set_cons_zero,List.set_cons_succ]
       refine wpAnyH_all (rs:=[7]) (by kernel_rfl) (by simp) ?_
       intro i hi
       simp only [List.mem_cons,List.not_mem_nil,or_false] at hi
       subst hi
       refine wpOp_ofQ rfl rfl (fun K hK=>?_)
       go_simp
       refine hK _ _ ⟨trivial,?_⟩
       clear hK K
       try simp only [List.setIfInBounds_toArray,List.set_cons_zero,List.set_cons_succ]
       refine wpAnyH_done (by kernel_rfl) ?_ _
       obtain ⟨q2,l2,bad2,ts2,us2,HT2,HR2,hl2,HX2⟩:=HNX.out T A c w6 _ w7 HTP hown7 hg7 hat7
       clear HNX HTP hown7 hg7 hat7 hown u7 v7f u3 v3 HCA HT HR
       go_wp2
       go_roundw
       case rel=>exact ⟨k+1,q2,l2,bad2,ts2,us2,_,by omega,by go_num,HT2,HR2,hl2,HX2⟩
       case measure=>simp [RowKit.intOf];omega
      ·refine wpOp_ofQ rfl rfl (fun K hK=>?_)
       go_simp
       refine HCA.out.mono ?_
       rintro e w6 ⟨T,A,c,rfl,HTP,htw6,u3,v3,hown⟩
       refine hK _ _ ⟨trivial,?_⟩
       clear hK K
       try simp only [List.setIfInBounds_toArray,List.set_cons_zero,List.set_cons_succ]
       refine wpAnyH_all (rs:=[1,4]) (by kernel_rfl) (by simp) ?_
       intro i hi
       simp only [List.mem_cons,List.not_mem_nil,or_false] at hi
       rcases hi with rfl|rfl
       ·refine wpOp_ofQ rfl rfl (fun K hK=>?_)
        go_simp
        refine hK _ _ ⟨trivial,?_⟩
        clear hK K
        try simp only [List.setIfInBounds_toArray,List.set_cons_zero,List.set_cons_succ]
        refine wpAnyH_all (rs:=[4]) (by kernel_rfl) (by simp) ?_
        intro i hi
        simp only [List.mem_cons,List.not_mem_nil,or_false] at hi
        subst hi
        refine wpOp_ofQ rfl rfl (fun K hK=>?_)
        go_simp
        refine hK _ _ ⟨trivial,?_⟩
        clear hK K
        try simp only [List.setIfInBounds_toArray,List.set_cons_zero,List.set_cons_succ]
        refine wpAnyH_all (rs:=[5]) (by kernel_rfl) (by simp) ?_
        intro i hi
        simp only [List.mem_cons,List.not_mem_nil,or_false] at hi
        subst hi
        refine wpOp_ofQ rfl rfl (fun K hK=>?_)
        refine wp_appK _ (.tmp 58) (.tmp 61) 59 rfl (tb+1) 61 4 tyE (.slice Aav k cav) k us' rfl (World.ownsRow.alloc hown _) ⟨w6.heap.size,0,none⟩ 1 1 [.int .i64 T.kind,.int .i64 T.num,.string T.name,.slice A T.args.length c] rfl rfl (cells_new _ _ _) (one4 _ _ _ _ _ _) (by omega) (by simp;omega) (fun v7 w7 hown7 hg7 hat7=>?_)
        obtain ⟨A7,c7,rfl⟩:=ownsRow_form hown7
        have hb7:w7.heap[tb]? = w6.heap[tb]?:=(hg7.block tb (by simp;omega) (fun e=>by have:=(hown.lt _ e.symm).1;omega)).trans (Below.heap_alloc _ _ _ htw6)
        have u7:=(World.cell?_of_block (w:=w6) (a:=⟨tb,3,none⟩) hb7).trans u3
        have v7f:=(World.frozen?_of_block (w:=w6) (a:=⟨tb,3,none⟩) hb7).trans v3
        clear hb7
        refine hK _ _ ⟨trivial,?_⟩
        clear hK K
        try simp only [List.setIfInBounds_toArray,List.set_cons_zero,List.set_cons_succ]
        refine takeD (i:=6) (s:=63) (v:=Value.pointer (some ⟨tb,3,none⟩)) rfl rfl (by kernel_rfl) (by kernel_rfl) (by kernel_rfl) (fun _ _ _ h=>h) (Or.inl ⟨by rfl,fun w' hS=>by go_simp⟩) trivial ?_
        try simp only [List.setIfInBounds_toArray,List.set_cons_zero,List.set_cons_succ]
        refine wpAnyH_all (rs:=[7]) (by kernel_rfl) (by simp) ?_
        intro i hi
        simp only [List.mem_cons,List.not_mem_nil,or_false] at hi
        subst hi
        refine wpOp_ofQ rfl rfl (fun K hK=>?_)
        go_simp
        refine hK _ _ ⟨trivial,?_⟩
        clear hK K
        try simp only [List.setIfInBounds_toArray,List.set_cons_zero,List.set_cons_succ]
        refine wpAnyH_done (by kernel_rfl) ?_ _
        obtain ⟨q2,l2,bad2,ts2,us2,HT2,HR2,hl2,HX2⟩:=HNX.out T A c w6 _ w7 HTP hown7 hg7 hat7
        clear HNX HTP hown7 hg7 hat7 hown u7 v7f u3 v3 HCA HT HR
        go_wp2
        go_roundw
        case rel=>exact ⟨k+1,q2,l2,bad2,ts2,us2,_,by omega,by go_num,HT2,HR2,hl2,HX2⟩
        case measure=>simp [RowKit.intOf];omega
       ·refine wpOp_ofQ rfl rfl (fun K hK=>?_)
        go_simp
        refine hK _ _ ⟨trivial,?_⟩
        clear hK K
        try simp only [List.setIfInBounds_toArray,List.set_cons_zero,List.set_cons_succ]
        refine wpAnyH_all (rs:=[1]) (by kernel_rfl) (by simp) ?_
        intro i hi
        simp only [List.mem_cons,List.not_mem_nil,or_false] at hi
        subst hi
        refine wpOp_ofQ rfl rfl (fun K hK=>?_)
        go_simp
        refine hK _ _ ⟨trivial,?_⟩
        clear hK K
        try simp only [List.setIfInBounds_toArray,List.set_cons_zero,List.set_cons_succ]
        refine wpAnyH_all (rs:=[5]) (by kernel_rfl) (by simp) ?_
        intro i hi
        simp only [List.mem_cons,List.not_mem_nil,or_false] at hi
        subst hi
        refine wpOp_ofQ rfl rfl (fun K hK=>?_)
        refine wp_appK _ (.tmp 58) (.tmp 61) 59 rfl (tb+1) 61 4 tyE (.slice Aav k cav) k us' rfl (World.ownsRow.alloc hown _) ⟨w6.heap.size,0,none⟩ 1 1 [.int .i64 T.kind,.int .i64 T.num,.string T.name,.slice A T.args.length c] rfl rfl (cells_new _ _ _) (one4 _ _ _ _ _ _) (by omega) (by simp;omega) (fun v7 w7 hown7 hg7 hat7=>?_)
        obtain ⟨A7,c7,rfl⟩:=ownsRow_form hown7
        have hb7:w7.heap[tb]? = w6.heap[tb]?:=(hg7.block tb (by simp;omega) (fun e=>by have:=(hown.lt _ e.symm).1;omega)).trans (Below.heap_alloc _ _ _ htw6)
        have u7:=(World.cell?_of_block (w:=w6) (a:=⟨tb,3,none⟩) hb7).trans u3
        have v7f:=(World.frozen?_of_block (w:=w6) (a:=⟨tb,3,none⟩) hb7).trans v3
        clear hb7
        refine hK _ _ ⟨trivial,?_⟩
        clear hK K
        try simp only [List.setIfInBounds_toArray,List.set_cons_zero,List.set_cons_succ]
        refine takeD (i:=6) (s:=63) (v:=Value.pointer (some ⟨tb,3,none⟩)) rfl rfl (by kernel_rfl) (by kernel_rfl) (by kernel_rfl) (fun _ _ _ h=>h) (Or.inl ⟨by rfl,fun w' hS=>by go_simp⟩) trivial ?_
        try simp only [List.setIfInBounds_toArray,List.set_cons_zero,List.set_cons_succ]
        refine wpAnyH_all (rs:=[7]) (by kernel_rfl) (by simp) ?_
        intro i hi
        simp only [List.mem_cons,List.not_mem_nil,or_false] at hi
        subst hi
        refine wpOp_ofQ rfl rfl (fun K hK=>?_)
        go_simp
        refine hK _ _ ⟨trivial,?_⟩
        clear hK K
        try simp only [List.setIfInBounds_toArray,List.set_cons_zero,List.set_cons_succ]
        refine wpAnyH_done (by kernel_rfl) ?_ _
        obtain ⟨q2,l2,bad2,ts2,us2,HT2,HR2,hl2,HX2⟩:=HNX.out T A c w6 _ w7 HTP hown7 hg7 hat7
        clear HNX HTP hown7 hg7 hat7 hown u7 v7f u3 v3 HCA HT HR
        go_wp2
        go_roundw
        case rel=>exact ⟨k+1,q2,l2,bad2,ts2,us2,_,by omega,by go_num,HT2,HR2,hl2,HX2⟩
        case measure=>simp [RowKit.intOf];omega
     ·have hex:badk=true∨k=n:=by
       cases badk with
       | true=>exact .inl rfl
       | false=>right;have:¬ k < n:=fun h=>hgo ⟨h,rfl⟩;omega
      obtain ⟨Aav,cav,rfl,hcav,hcm⟩:=HR.out.form
      obtain ⟨A2,c2,e2,hty⟩:=HR.out.ty (x:Int) 0 s (by omega)
      injection e2 with e3 _ e4
      subst e3 e4
      obtain ⟨Wf,hWf,hbx,hpost⟩:=TI.fin HT.out (hty.sub fun g hg=>⟨by omega,hg.2⟩) (by omega) q bad Y
       (by
        intro e
        obtain ⟨e5,hl,h1,h2⟩:=HXK.out.1 e
        obtain ⟨e6,h3,-,h4⟩:=HX5.out.1 e5
        have hkn:k=n:=by
         rcases hex with h|h
         ·rw [h] at e;cases e
         ·exact h
        rw [hkn,Nat.sub_self,lstA] at hl
        exact ⟨e6,h3 _ _ _ hl.symm,by omega,h2⟩)
       (by
        intro e
        rcases HXK.out.2 e with h|h
        ·exact (HX5.out.2 h).1
        ·cases hb5:bad5 with
         | true=>exact (HX5.out.2 hb5).1
         | false=>exact .inr ((HX5.out.1 hb5).2.2.1 h))
      rw [htl] at hWf hbx y3
      have HW:=Lib.hid hWf;have HBXF:=Lib.hid hbx;have HPO:=Lib.hid hpost
      have HF:Hid (∀ (r:Bool),True):=Lib.hid fun _=>trivial
      clear hWf hbx hpost hty hcav hcm HF
      obtain ⟨r4,r5,r6,r7⟩:=box4 HT.out.res
      obtain ⟨s4,s5,s6,s7⟩:=box4_frozen HT.out.res
      have htlt:=HT.out.tlt
      have hne3:¬ (w.heap.size=tb):=by omega
      have hne4:¬ (tb=w.heap.size):=by omega
      have hgt:(if badk=true then True else ¬ ((k:Int) < (n:Int))):=by
       rcases hex with h|h
       ·simp [h]
       ·split
        ·trivial
        ·omega
      cases badk with
      | true =>
       clear hgt hex hgo
       go_wp2
       all_goals
        rw [←HW.out]
        obtain ⟨x0,x1,x2,x3⟩:=box4 HBXF.out
        refine bodyPost_ret (v:=.agg #[.int .i64 (x:Int),.int .i64 0,.string s,.slice Aav k cav]) (by simp [results,Tryz.results127,go_sem,x0,x1,x2,x3]) rfl ?_
        have h:=HPO.out
        unfold tyV at h
        rw [htl] at h
        exact h
      | false =>
       have hkn:k=n:=by simpa using hex
       clear hgt hex hgo
       subst hkn
       go_wp2
       all_goals
        rw [←HW.out]
        obtain ⟨x0,x1,x2,x3⟩:=box4 HBXF.out
        refine bodyPost_ret (v:=.agg #[.int .i64 (x:Int),.int .i64 0,.string s,.slice Aav k cav]) (by simp [results,Tryz.results127,go_sem,x0,x1,x2,x3]) rfl ?_
        have h:=HPO.out
        unfold tyV at h
        rw [htl] at h
        exact h
def decX (L:List UInt8):Option (List Ex) :=
 if 2≤L.length∧numB (L.take 2)≤1000 then (match exsR (numB (L.take 2)) [] (L.drop 2) with
  | none=>none
  | some (xs,l)=>if l=[]∧rightX xs=true then some xs else none)
 else none
def DecPost (L:List UInt8) (w:World) (e:Ending) (w':World):Prop :=
 Below w.heap.size w w'∧∃ v',e=.returned (.tuple #[v',.int .i64 (if (decX L).isSome then 0 else 140)])∧(∀ xs,decX L=some xs→ExsAt (fun g=>w.heap.size≤g∧g < w'.heap.size) w' v' xs)∧(decX L=none→v'=.slice none 0 0)
theorem p_below {w W W':World} {p:Nat} (hb:Below w.heap.size w W) (hk:Kept (· = p) W W') (hp:w.heap.size≤p):Below w.heap.size w W' :=
 hb.trans (hk.below hb.size fun g e=>by omega)
theorem none_post {L:List UInt8} {w W:World} (hb:Below w.heap.size w W) (h:decX L=none):DecPost L w (.returned (.tuple #[.slice none 0 0,.int .i64 140])) W :=
 ⟨hb,.slice none 0 0,by rw [h];rfl,(fun xs e=>by rw [h] at e;cases e),fun _=>rfl⟩
set_option maxRecDepth 20000 in
set_option maxHeartbeats 1000000 in
theorem decode_any (L:List UInt8) (v:Value) (w:World) (hsg:Seg w w.heap.size v (byteCells L)):Calls Tryz.prog 94 #[v] w (DecPost L w):=by
 obtain ⟨P,hP⟩:∃ P,P=DecPost L w:=⟨_,rfl⟩
 have HPO:=Lib.hid hP
 rw [←hP]
 clear hP
 obtain ⟨p,hp⟩:∃ p,p=w.heap.size:=⟨_,rfl⟩
 obtain ⟨W1,hW1⟩:∃ W1,W1=w.alloc (.cells #[v,.int .i64 0,.int .i64 0,.bool false] 187):=⟨_,rfl⟩
 have hb1:Below w.heap.size w W1:=by rw [hW1];exact (Below.refl _ _).alloc (Nat.le_refl _) _
 have hr1:RSQ L w.heap.size p v L 0 false W1:=⟨0,rfl,by rw [hW1,hp];exact heap_alloc_new _ _,hsg.below hb1,by omega,by omega⟩
 have hplt:p < W1.heap.size:=hr1.lt
 have HN:=Lib.hid (number_anyQ L w.heap.size p v L 2 0 false W1 hr1 (by decide) (by decide))
 have HBW1:=Lib.hid hb1
 obtain ⟨A,c,rfl,hc,hm,-⟩:=hsg.open_bytes
 have HPP:=Lib.hid hp
 clear hsg hr1 hb1
 go_enter Tryz.func94,Tryz.ntmps94
 go_upto_region 2 with fail
 rw [←hp,←hW1]
 clear hW1 hp
 go_wp2_with fail
 refine HN.out.mono ?_
 rintro e w2 ⟨n,l2,bad2,rfl,h2,k2,ok2,no2⟩
 have HB2:Hid (Below w.heap.size w w2):=Lib.hid (p_below HBW1.out k2 (by rw [HPP.out];exact Nat.le_refl _))
 have HR2:=Lib.hid h2
 have hp2:p < w2.heap.size:=h2.lt
 have hn:n < 65536:=by
  cases bad2 with
  | true=>have:=(no2 rfl).2;omega
  | false =>
   obtain ⟨_,h2,h3,_⟩:=ok2 rfl
   have:=numB_lt (L.take 2)
   rw [List.length_take,Nat.min_eq_left h2,←h3] at this
   omega
 obtain ⟨R,hR⟩:∃ R,R=exsR n [] l2:=⟨_,rfl⟩
 have HX2:Hid ((bad2=false→decX L=(if n≤1000 then (match R with
  | none=>none
  | some (xs,l)=>if l=[]∧rightX xs=true then some xs else none) else none))∧(bad2=true→decX L=none∧n=0)):=Lib.hid (by
  constructor
  ·intro e
   obtain ⟨-,e1,e2,e3⟩:=ok2 e
   rw [hR,e2,e3,decX]
   by_cases h:numB (L.take 2)≤1000
   ·rw [if_pos ⟨e1,h⟩,if_pos h]
   ·rw [if_neg (fun h'=>h h'.2),if_neg h]
  ·intro e
   obtain ⟨e1,e2⟩:=no2 e
   refine ⟨?_,e2⟩
   rw [decX,if_neg]
   rintro ⟨h,-⟩
   rcases e1 with e1|e1
   ·cases e1
   ·omega)
 have HR:=Lib.hid hR
 clear h2 k2 ok2 no2 HN HBW1 hR
 by_cases hbig:1000 < n
 ·have hbi:(1000:Int) < (n:Int):=by omega
  have HE:Hid (P (.returned (.tuple #[.slice none 0 0,.int .i64 140])) w2):=Lib.hid (by
   rw [HPO.out]
   refine none_post HB2.out ?_
   cases hb:bad2 with
   | true=>exact (HX2.out.2 hb).1
   | false=>rw [HX2.out.1 hb,if_neg (by omega)])
  go_wp2
  exact HE.out
 have hbi:¬ ((1000:Int) < (n:Int)):=by omega
 go_upto_region 5 with fail
 go_wp2
 go_loopw [6,7] (fun sv iv W=>∃ (k qk:Nat) (lk:List UInt8) (badk:Bool) (xs:List Ex) (us:List Value),k≤n∧iv=.int .i64 k∧Hid (RSQ L w.heap.size p (.slice A L.length c) lk qk badk W)∧Hid (RowK 63 5 ExAt (p+1) (p+1) W xs sv us)∧xs.length=k∧Hid (Below w.heap.size w W) ∧
  Hid ((badk=false→bad2=false∧exsR (n - k) xs lk=R)∧(badk=true→bad2=true∨R=none))) (fun _ iv _=>n - (RowKit.intOf iv).toNat)
 case atStart=>exact ⟨0,0,l2,bad2,[],[],by omega,rfl,HR2,Lib.hid (RowK.nil _),rfl,HB2,Lib.hid ⟨fun e=>⟨e,by rw [HR.out];rfl⟩,fun e=>.inl e⟩⟩
 case round =>
  obtain ⟨k,qk,lk,badk,xs,us,hk,rfl,HT,HRW,hxl,HB,HXK⟩:=hrel
  obtain ⟨ak,hak,hak2,r0,r1,r2,r3⟩:=HT.out.cells
  by_cases hgo:k < n∧badk=false
  ·obtain ⟨hlt,rfl⟩:=hgo
   have HNM:=Lib.hid (srname_any L w.heap.size p (.slice A L.length c) lk qk false wr HT.out)
   go_wp2_with fail
   refine HNM.out.mono ?_
   rintro e w3 ⟨s,l3,bad3,rfl,hs3,h3,k3,ok3,no3⟩
   obtain ⟨W4,hW4⟩:∃ W4,W4=w3.setCell ⟨p,2,none⟩ (.int .i64 0):=⟨_,rfl⟩
   have hr4:RSQ L w.heap.size p (.slice A L.length c) l3 0 bad3 W4:=by rw [hW4];exact h3.setParts 0
   have hk4:Kept (· = p) wr W4:=by rw [hW4];exact setp_kept k3 _
   have hty:=srtyp_any L w.heap.size p (.slice A L.length c) 301 l3 0 bad3 W4 hr4 (by omega) (by omega)
   obtain ⟨f0,f1,f2,f3⟩:=h3.frozen
   obtain ⟨a3,-,-,y0,y1,y2,y3⟩:=h3.cells
   have HK4:=Lib.hid hk4
   obtain ⟨sv,hsv⟩:∃ sv,sv=sv:=⟨Value.bool false,rfl⟩
   clear hsv
   have HCA:Hid (Calls Tryz.prog 127 #[.pointer (some ⟨p,0,none⟩)] W4 fun e w'=>∃ (T:Ty) (A':Option Addr) (c':Nat),e=.returned (.agg #[.int .i64 T.kind,.int .i64 T.num,.string T.name,.slice A' T.args.length c']) ∧
     Hid (∃ (l':List UInt8) (q':Nat) (bad':Bool),TyAt (fun g=>p+1≤g∧wr.heap.size≤g∧g < w'.heap.size) w' (tyV T.kind T.num T.name A' T.args.length c') T∧RSQ L w.heap.size p (.slice A L.length c) l' q' bad' w'∧Kept (· = p) wr w'∧(bad'=false→exsR (n - (k+1)) (xs ++ [⟨s,T⟩]) l'=R)∧(bad'=true→R=none))):=Lib.hid (by
    have hpw:=HT.out.lt
    obtain ⟨-,hex⟩:=HXK.out.1 (by simp)
    rw [show n - k=(n - (k+1))+1 by omega,exsR] at hex
    refine hty.mono ?_
    rintro e w' ⟨T,A',c',l',q',bad',rfl,hT,hTl,hrs,hkk,okk,nok⟩
    refine ⟨T,A',c',rfl,Lib.hid ⟨l',q',bad',hT.sub fun g hg=>⟨by have:=hk4.size;omega,by have:=hk4.size;omega,hg.2⟩,hrs,hk4.trans' hkk,fun e=>?_,fun e=>?_⟩⟩
    ·obtain ⟨e3,h5,-,-⟩:=okk e
     rw [(ok3 e3).2] at hex
     simp only [h5] at hex
     exact hex
    ·rw [←hex]
     cases hb3:bad3 with
     | true =>
      rcases no3 hb3 with h|h
      ·cases h
      ·rw [h]
     | false =>
      rw [(ok3 hb3).2]
      have:typR 301 0 l3=none:=(nok e).resolve_left (by rw [hb3];simp)
      simp only [this])
   clear hty h3 k3 ok3 no3 hr4 hk4
   rw [hxl.symm] at HCA
   go_wp2_with fail
   rw [←hW4]
   clear hW4 f0 f1 f2 f3 y0 y1 y2 y3 r0 r1 r2 r3 HNM
   refine HCA.out.mono ?_
   rintro e w5 ⟨T,A',c',rfl,HQ⟩
   obtain ⟨l5,q5,bad5,hT,h5,k5,ok5,no5⟩:=HQ.out
   have hp5:=h5.lt
   have hr5:=RowK.above (R:=ExAt) ExAt.keep (w':=w5) HRW.out (Lo:=p+1) (Nat.le_refl _) (Nat.le_refl _) (fun g h1 h2=>k5.block g h2 (by omega)) k5.size
   have hown:=hr5.own
   obtain ⟨us',hus⟩:∃ us',us'=us.flatMap flatC:=⟨_,rfl⟩
   rw [←hus] at hown
   have HOWN:=Lib.hid hown;have HR5:=Lib.hid hr5;have HT5:=Lib.hid hT;have H5:=Lib.hid h5;have K5:=Lib.hid k5;have OK5:=Lib.hid ok5;have NO5:=Lib.hid no5;have HUS:=Lib.hid hus
   have hz5:=k5.size
   clear hr5 hT h5 k5 ok5 no5 HQ HCA hus
   go_wp2_with (at_builtin;refine wpList_appK _ rfl _ _ _ rfl (p+1) 63 5 exE _ xs.length us' rfl (World.ownsRow.alloc hown _) ⟨w5.heap.size,0,none⟩ 1 1 [.string s,.int .i64 T.kind,.int .i64 T.num,.string T.name,.slice A' T.args.length c'] rfl rfl (cells_new _ _ _) (one5 _ _ _ _ _ _ _) (by omega) (by simp;omega) ?_;intro v6 w6 hown6 hg6 hat6)
   go_roundw
   case rel =>
    have hlow:∀ g,g≤p→w6.heap[g]? = w5.heap[g]?:=fun g hg=>(hg6.block g (by simp;omega) (fun e=>by have:=(HOWN.out.lt _ e.symm).1;omega)).trans (Below.heap_alloc _ _ _ (by omega))
    refine ⟨k+1,q5,l5,bad5,xs ++ [⟨s,T⟩],us ++ [exV ⟨s,T⟩ A' c'],by omega,by go_num,Lib.hid (H5.out.keep hlow),Lib.hid ?_,by simp [hxl],Lib.hid ?_,Lib.hid ⟨fun e=>?_,fun e=>?_⟩⟩
    ·refine RowK.next (R:=ExAt) ExAt.keep HR5.out (u:=exV ⟨s,T⟩ A' c') (x:=⟨s,T⟩) ⟨A',c',rfl,by show s.size≤9223372036854775807;omega,HT5.out.sub fun g hg=>hg⟩ (fun g hg=>⟨hg.1,hg.2.2,fun e=>by have:=(HRW.out.lt g e).2;omega⟩) rfl _ ?_ hg6 hat6
     rw [←HUS.out];exact hown6
    ·exact below_grow (p_below HB.out K5.out (by rw [HPP.out];exact Nat.le_refl _)) (by have:=HB.out.size;omega) _ hg6 (fun g e=>by have:=(HOWN.out.lt g e).1;rw [←HPP.out];omega)
    ·exact ⟨(HXK.out.1 (by simp)).1,by rw [←hxl];exact OK5.out e⟩
    ·exact .inr (NO5.out e)
   case measure=>simp [RowKit.intOf];omega
  ·have hex:badk=true∨k=n:=by
    cases badk with
    | true=>exact .inl rfl
    | false=>right;have:¬ k < n:=fun h=>hgo ⟨h,rfl⟩;omega
   by_cases hbk:badk=true
   ·subst hbk
    have HE:Hid (P (.returned (.tuple #[.slice none 0 0,.int .i64 140])) wr):=Lib.hid (by
     rw [HPO.out]
     refine none_post HB.out ?_
     rcases HXK.out.2 rfl with h|h
     ·exact (HX2.out.2 h).1
     ·cases hb:bad2 with
      | true=>exact (HX2.out.2 hb).1
      | false=>rw [HX2.out.1 hb,if_pos (by omega),h])
    clear hex hgo
    go_wp2
    all_goals exact HE.out
   ·have hbf:badk=false:=by simpa using hbk
    subst hbf
    have hkn:k=n:=by simpa using hex
    subst hkn
    obtain ⟨e2,hex2⟩:=HXK.out.1 rfl
    rw [Nat.sub_self,exsR] at hex2
    have hdx:=HX2.out.1 e2
    rw [if_pos (by omega),←hex2] at hdx
    simp only at hdx
    have HDX:=Lib.hid hdx
    have hex4:=(HRW.out.exs).sub (S':=(· < wr.heap.size)) fun g hg=>hg.2
    have HRI:=Lib.hid (right14_any xs _ wr hex4)
    have HEX:=Lib.hid HRW.out.exs
    obtain ⟨Asv,csv,rfl,-,-⟩:=HRW.out.form
    rw [hxl] at HRI HEX
    clear hex2 hdx hex4 hex hgo hbk
    by_cases hl:lk=[]
    ·have hal:L.length=ak:=hak.2 hl
     have g1:((ak:Int) != (L.length:Int))=false:=by simp;omega
     by_cases hri:rightX xs=true
     ·have HE:∀ W,Below wr.heap.size wr W→Hid (P (.returned (.tuple #[.slice Asv k csv,.int .i64 0])) W):=fun W hb=>Lib.hid (by
       rw [HPO.out]
       have hd:=HDX.out
       rw [if_pos ⟨hl,hri⟩] at hd
       refine ⟨HB.out.trans (hb.mono HB.out.size),.slice Asv k csv,by rw [hd];rfl,fun ys e=>?_,fun e=>by rw [hd] at e;cases e⟩
       rw [hd] at e
       injection e with e
       subst e
       refine HEX.out.keep fun g hg=>⟨⟨by have:=HPP.out;omega,Nat.lt_of_lt_of_le hg.2 hb.size⟩,hb.block g hg.2⟩)
      rw [hri] at HRI
      clear hak hal hl hri
      go_wp2_with fail
      refine HRI.out.mono ?_
      rintro e w7 ⟨rfl,hb7⟩
      have HE7:=HE w7 hb7
      clear HE hb7
      go_wp2
      exact HE7.out
     ·have hri':rightX xs=false:=by simpa using hri
      have HE:∀ W,Below wr.heap.size wr W→Hid (P (.returned (.tuple #[.slice none 0 0,.int .i64 140])) W):=fun W hb=>Lib.hid (by
       rw [HPO.out]
       refine none_post (HB.out.trans (hb.mono HB.out.size)) ?_
       rw [HDX.out,if_neg (fun h=>hri h.2)])
      rw [hri'] at HRI
      clear hak hal hl hri hri'
      go_wp2_with fail
      refine HRI.out.mono ?_
      rintro e w7 ⟨rfl,hb7⟩
      have HE7:=HE w7 hb7
      clear HE hb7
      go_wp2
      exact HE7.out
    ·have hal:¬ (L.length=ak):=fun h=>hl (hak.1 h)
     have g1:((ak:Int) != (L.length:Int))=true:=by simp;omega
     have HE:Hid (P (.returned (.tuple #[.slice none 0 0,.int .i64 140])) wr):=Lib.hid (by
      rw [HPO.out]
      refine none_post HB.out ?_
      rw [HDX.out,if_neg (fun h=>hl h.1)])
     clear hak hal hl
     go_wp2
     all_goals exact HE.out
end Go.Proofs.YtaalbcfpacpgfaaGreat
namespace Go.Typ
open Go.RowKit Go.Lib Go.Vfs Go.Par
theorem take_more {l m:List UInt8} {n:Nat} (h:n≤l.length):(l ++ m).take n=l.take n∧(l ++ m).drop n=l.drop n ++ m:=by
 rw [List.take_append_of_le_length h,List.drop_append_of_le_length h];exact ⟨rfl,rfl⟩
theorem nmR_of (s:ByteArray) (hs:s.size≤255) (m:List UInt8):nmR ([s.size.toUInt8] ++ s.data.toList ++ m)=some (s,m):=by
 have hl:s.data.toList.length=s.size:=by rw [Array.length_toList];rfl
 have hn:s.size.toUInt8.toNat=s.size:=by show (UInt8.ofNat s.size).toNat=_;rw [UInt8.toNat_ofNat'];omega
 show nmR (s.size.toUInt8 :: (s.data.toList ++ m))=_
 rw [nmR,hn,if_pos (by rw [List.length_append];omega),←hl,List.take_left,List.drop_left]
theorem be4_num (n:Nat) (hn:n < 4294967296):numB (be4Q n)=n:=by
 have key:∀ m:Nat,(m % 256).toUInt8.toNat=m % 256:=fun m=>by
  show (UInt8.ofNat (m % 256)).toNat=_
  rw [UInt8.toNat_ofNat'];omega
 simp only [numB,be4Q,List.foldl_cons,List.foldl_nil,key]
 omega
theorem lstA_of {f:Nat} (ts:List Ty):∀ (xs:List Ty) (q:Nat) (m:List UInt8),(∀ t∈ts,∀ q m,q+t.parts≤300→301≤f+q→typR f q (wrT t ++ m)=some (t,q+t.parts,m))→q+partsL ts≤300→301≤f+q →
  lstA (typR f) ts.length xs q (wrL ts ++ m)=some (xs ++ ts,q+partsL ts,m):=by
 induction ts with
 | nil=>intro xs q m _ _ _;simp [lstA,wrL,partsL]
 | cons t ts ih =>
  intro xs q m h h1 h2
  rw [partsL] at h1
  have:=t.parts_pos
  rw [List.length_cons,lstA,wrL,List.append_assoc,h t (by simp) q _ (by omega) h2]
  simp only
  rw [ih _ _ _ (fun t ht=>h t (by simp [ht])) (by omega) (by omega),partsL]
  simp only [List.append_assoc,List.singleton_append]
  congr 3
  omega
theorem ba_nilX {s:ByteArray} (h:s.toList=[]):s=⟨#[]⟩:=by
 apply ByteArray.ext
 apply Array.toList_inj.mp
 rw [←ByteArray.toList_eq]
 exact h
theorem typR_of (T:Ty):FitAll T→shortT T=true→∀ (f q:Nat) (m:List UInt8),q+T.parts≤300→301≤f+q→typR f q (wrT T ++ m)=some (T,q+T.parts,m):=by
 induction T using Ty.ind with
 | h T ih =>
  intro hF hS f q m hp hf
  have hpp:=T.parts_pos
  obtain ⟨f,rfl⟩:∃ f',f=f'+1:=⟨f - 1,by omega⟩
  have hfs:=hF.self
  have hnl:=shortT_name hS
  have hal:=shortT_args hS
  have hpe:=T.parts_eq
  rw [typR,if_neg (by omega),wrT_eq]
  have hargs:∀ (q:Nat) (m:List UInt8),q+partsL T.args≤300→301≤f+q→lstA (typR f) T.args.length [] q (wrL T.args ++ m)=some (T.args,q+partsL T.args,m):=fun q m h1 h2=>by
   have:=lstA_of (f:=f) T.args [] q m (fun t ht q m h3 h4=>by
    obtain ⟨i,hi,rfl⟩:=List.getElem_of_mem ht
    exact ih i hi (hF.arg hi) (shortT_arg hS (List.getElem_mem hi)) f q m h3 h4) h1 h2
   simpa using this
  have hnb:T.args.length.toUInt8.toNat=T.args.length:=by show (UInt8.ofNat T.args.length).toNat=_;rw [UInt8.toNat_ofNat'];omega
  have hAR:∀ (k:Int) (s:ByteArray),argsR (typR f) k s (q+1) ([T.args.length.toUInt8] ++ wrL T.args ++ m)=some (.mk k 0 s T.args,q+T.parts,m):=fun k s=>by
   show argsR (typR f) k s (q+1) (T.args.length.toUInt8 :: (wrL T.args ++ m))=_
   rw [argsR,hnb,hargs _ _ (by omega) (by omega)]
   simp only
   congr 3
   omega
  have eta:∀ k n s,T.kind=k→T.num=n→T.name=s→T=.mk k n s T.args:=fun k n s h1 h2 h3=>by
   obtain ⟨k',n',s',ts⟩:=T
   simp only [Ty.kind,Ty.num,Ty.name,Ty.args] at *
   rw [h1,h2,h3]
  rcases fits_kinds hfs with ⟨h1,h2,h3,h4,h5⟩|⟨h1,h2,h3⟩|⟨h1,h2,h3,h4⟩|⟨h1,h2,h3,h4⟩
  ·have hnm:=ba_nilX h4
   have ha:T.args=[]:=List.eq_nil_of_length_eq_zero h5
   rw [h1,if_pos rfl]
   show bodyR (typR f) (q+1) (((1:Int).toNat.toUInt8) :: (be4Q T.num.toNat ++ m))=_
   rw [bodyR,show ((1:Int).toNat.toUInt8).toNat=1 from rfl,kindR,if_pos rfl,if_pos (by rw [List.length_append,be4_lengthQ];omega)]
   obtain ⟨e1,e2⟩:=take_more (l:=be4Q T.num.toNat) (m:=m) (n:=4) (by rw [be4_lengthQ];exact Nat.le_refl _)
   rw [e1,e2,List.take_of_length_le (by rw [be4_lengthQ];exact Nat.le_refl _),List.drop_of_length_le (by rw [be4_lengthQ];exact Nat.le_refl _),be4_num _ (by omega),Int.toNat_of_nonneg h2]
   have hT:=eta 1 T.num ⟨#[]⟩ h1 rfl hnm
   rw [ha] at hT
   rw [←hT,hpe,ha,partsL]
   simp
  ·rw [h1,if_neg (by decide),if_pos rfl]
   have e:[((2:Int).toNat.toUInt8)] ++ ([T.name.size.toUInt8] ++ T.name.data.toList ++ ([T.args.length.toUInt8] ++ wrL T.args)) ++ m=((2:Int).toNat.toUInt8) :: ([T.name.size.toUInt8] ++ T.name.data.toList ++ ([T.args.length.toUInt8] ++ wrL T.args ++ m)):=by simp
   rw [e,bodyR,show ((2:Int).toNat.toUInt8).toNat=2 from rfl,kindR,if_neg (by decide),if_pos rfl,nmR_of _ hnl]
   simp only
   rw [hAR,←eta 2 0 T.name h1 h2 rfl]
  ·rw [h1,if_neg (by decide),if_neg (by decide),List.nil_append]
   show bodyR (typR f) (q+1) (((3:Int).toNat.toUInt8) :: ([T.args.length.toUInt8] ++ wrL T.args ++ m))=_
   rw [bodyR,show ((3:Int).toNat.toUInt8).toNat=3 from rfl,kindR,if_neg (by decide),if_neg (by decide),if_pos (.inl rfl),hAR]
   show some (Ty.mk 3 0 ⟨#[]⟩ T.args,_,_)=_
   rw [←eta 3 0 ⟨#[]⟩ h1 h2 (ba_nilX h3)]
  ·rw [h1,if_neg (by decide),if_neg (by decide),List.nil_append]
   show bodyR (typR f) (q+1) (((4:Int).toNat.toUInt8) :: ([T.args.length.toUInt8] ++ wrL T.args ++ m))=_
   rw [bodyR,show ((4:Int).toNat.toUInt8).toNat=4 from rfl,kindR,if_neg (by decide),if_neg (by decide),if_pos (.inr rfl),hAR]
   show some (Ty.mk 4 0 ⟨#[]⟩ T.args,_,_)=_
   rw [←eta 4 0 ⟨#[]⟩ h1 h2 (ba_nilX h3)]
end Go.Typ
namespace Go.Proofs.YtaalbcfpacpgfaaGreat
open Go.RowKit Go.Lib Go.Vfs Go.Par Go.Typ Go.Shelf
theorem exsR_of (xs:List Ex):∀ (ys:List Ex) (m:List UInt8),(∀ x∈xs,x.name.size≤255∧rightT x.ty=true∧shortT x.ty=true)→exsR xs.length ys (exsB xs ++ m)=some (ys ++ xs,m):=by
 induction xs with
 | nil=>intro ys m _;simp [exsR,exsB]
 | cons x xs ih =>
  intro ys m h
  obtain ⟨h1,h2,h3⟩:=h x (by simp)
  obtain ⟨h4,h5⟩:=rightT_iff.1 h2
  have e:exsB (x :: xs) ++ m=[x.name.size.toUInt8] ++ x.name.data.toList ++ (wrT x.ty ++ (exsB xs ++ m)):=by simp [exsB,exB]
  rw [List.length_cons,exsR,e,nmR_of _ h1]
  simp only
  rw [typR_of x.ty h5 h3 301 0 _ (by omega) (by omega)]
  simp only
  rw [ih _ _ (fun y hy=>h y (by simp [hy]))]
  simp
theorem right_each {xs:List Ex} (h:rightX xs=true):∀ x∈xs,x.name.size≤255∧rightT x.ty=true∧shortT x.ty=true:=fun x hx=>by
 obtain ⟨i,hi,rfl⟩:=List.getElem_of_mem hx
 obtain ⟨h1,-,h2,h3⟩:=rightX_each h hi
 exact ⟨h1,closedT_right h2,h3⟩
theorem encX_parts {xs:List Ex} (h:rightX xs=true) (m:List UInt8):2≤(encX xs ++ m).length∧numB ((encX xs ++ m).take 2)=xs.length∧(encX xs ++ m).drop 2=exsB xs ++ m:=by
 have hl:=rightX_len h
 refine ⟨by simp [encX],?_,by simp [encX]⟩
 have k1:(xs.length / 256).toUInt8.toNat=xs.length / 256:=by show (UInt8.ofNat (xs.length / 256)).toNat=_;rw [UInt8.toNat_ofNat'];omega
 have k2:xs.length.toUInt8.toNat=xs.length % 256:=by show (UInt8.ofNat xs.length).toNat=_;rw [UInt8.toNat_ofNat']
 simp only [encX,List.cons_append,List.nil_append,List.take_succ_cons,List.take_zero,numB,List.foldl_cons,List.foldl_nil,k1,k2]
 omega
theorem decX_enc {xs:List Ex} (h:rightX xs=true) (m:List UInt8):decX (encX xs ++ m)=if m=[] then some xs else none:=by
 obtain ⟨h1,h2,h3⟩:=encX_parts h m
 have hl:=rightX_len h
 rw [decX,if_pos ⟨h1,by rw [h2];exact hl⟩,h2,h3,exsR_of xs [] m (right_each h)]
 simp only [List.nil_append]
 by_cases hm:m=[]
 ·rw [if_pos ⟨hm,h⟩,if_pos hm]
 ·rw [if_neg (fun e=>hm e.1),if_neg hm]
end Go.Proofs.YtaalbcfpacpgfaaGreat
namespace Go.Typ
open Go.RowKit Go.Lib Go.Vfs Go.Par
theorem u8_back (c:UInt8):c.toNat.toUInt8=c:=by
 show UInt8.ofNat c.toNat=c
 exact UInt8.ofNat_toNat
theorem nmR_wr {l:List UInt8} {s:ByteArray} {l':List UInt8} (h:nmR l=some (s,l')):[s.size.toUInt8] ++ s.data.toList ++ l'=l∧s.size≤255:=by
 cases l with
 | nil=>cases h
 | cons c l =>
  rw [nmR] at h
  split at h
  ·rename_i hc
   injection h with h
   injection h with h1 h2
   have hd:s.data.toList=l.take c.toNat:=by rw [←h1]
   have hs:s.size=c.toNat:=by
    have:s.data.toList.length=s.size:=by rw [Array.length_toList];rfl
    rw [←this,hd,List.length_take];omega
   refine ⟨?_,by rw [hs];have:=c.toNat_lt;omega⟩
   rw [hs,hd,←h2,u8_back,List.append_assoc,List.take_append_drop]
   rfl
  ·cases h
theorem be4_wr {l:List UInt8} (h:l.length=4):be4Q (numB l)=l:=by
 match l,h with
 | [a,b,c,d],_ =>
  have ha:=a.toNat_lt
  have hb:=b.toNat_lt
  have hc:=c.toNat_lt
  have hd:=d.toNat_lt
  have e:numB [a,b,c,d]=((a.toNat * 256+b.toNat) * 256+c.toNat) * 256+d.toNat:=by simp [numB]
  rw [e,be4Q]
  have e1:(((a.toNat * 256+b.toNat) * 256+c.toNat) * 256+d.toNat) / 16777216 % 256=a.toNat:=by omega
  have e2:(((a.toNat * 256+b.toNat) * 256+c.toNat) * 256+d.toNat) / 65536 % 256=b.toNat:=by omega
  have e3:(((a.toNat * 256+b.toNat) * 256+c.toNat) * 256+d.toNat) / 256 % 256=c.toNat:=by omega
  have e4:(((a.toNat * 256+b.toNat) * 256+c.toNat) * 256+d.toNat) % 256=d.toNat:=by omega
  rw [e1,e2,e3,e4,u8_back,u8_back,u8_back,u8_back]
theorem lstA_wr {g:Nat→List UInt8→Option (Ty × Nat × List UInt8)} (hg:∀ q l T q' l',g q l=some (T,q',l')→wrT T ++ l'=l) :
  ∀ (n:Nat) (xs:List Ty) (q:Nat) (l:List UInt8) (ts:List Ty) (q':Nat) (l':List UInt8),lstA g n xs q l=some (ts,q',l')→∃ us,ts=xs ++ us∧us.length=n∧wrL us ++ l'=l:=by
 intro n
 induction n with
 | zero=>intro xs q l ts q' l' h;rw [lstA] at h;injection h with h;injection h with h1 h2;injection h2 with h2 h3;exact ⟨[],by simp [h1],rfl,by simp [wrL,h3]⟩
 | succ n ih =>
  intro xs q l ts q' l' h
  rw [lstA] at h
  cases hq:g q l with
  | none=>rw [hq] at h;cases h
  | some x =>
   obtain ⟨T,q1,l1⟩:=x
   rw [hq] at h
   obtain ⟨us,e1,e2,e3⟩:=ih _ _ _ _ _ _ h
   refine ⟨T :: us,by rw [e1];simp,by simp [e2],?_⟩
   rw [wrL,List.append_assoc,e3]
   exact hg _ _ _ _ _ hq
theorem argsR_wr {g:Nat→List UInt8→Option (Ty × Nat × List UInt8)} (hg:∀ q l T q' l',g q l=some (T,q',l')→wrT T ++ l'=l) {k:Int} {s:ByteArray} {q:Nat} {l:List UInt8} {T:Ty} {q':Nat} {l':List UInt8}
  (h:argsR g k s q l=some (T,q',l')):∃ ts,T=.mk k 0 s ts∧[ts.length.toUInt8] ++ wrL ts ++ l'=l:=by
 cases l with
 | nil=>cases h
 | cons c l =>
  rw [argsR] at h
  cases hq:lstA g c.toNat [] q l with
  | none=>rw [hq] at h;cases h
  | some x =>
   obtain ⟨ts,q1,l1⟩:=x
   rw [hq] at h
   simp only at h
   injection h with h;injection h with h1 h2;injection h2 with h2 h3
   obtain ⟨us,e1,e2,e3⟩:=lstA_wr hg _ _ _ _ _ _ _ hq
   rw [List.nil_append] at e1
   subst e1
   refine ⟨ts,h1.symm,?_⟩
   rw [e2,u8_back,List.append_assoc,←h3,e3]
   rfl
theorem wrT_con (s:ByteArray) (ts:List Ty):wrT (.mk 2 0 s ts)=[2] ++ ([s.size.toUInt8] ++ s.data.toList ++ ([ts.length.toUInt8] ++ wrL ts)):=by rw [wrT_eq];rfl
theorem wrT_oth {k:Int} (h1:¬ k=1) (h2:¬ k=2) (ts:List Ty):wrT (.mk k 0 ⟨#[]⟩ ts)=[k.toNat.toUInt8] ++ ([ts.length.toUInt8] ++ wrL ts):=by
 rw [wrT_eq]
 show [k.toNat.toUInt8] ++ (if k=1 then _ else (if k=2 then _ else []) ++ _)=_
 rw [if_neg h1,if_neg h2];rfl
theorem wrT_var (n:Int):wrT (.mk 1 n ⟨#[]⟩ [])=[1] ++ be4Q n.toNat:=by rw [wrT_eq];rfl
theorem typR_wr (f:Nat):∀ (q:Nat) (l:List UInt8) (T:Ty) (q':Nat) (l':List UInt8),typR f q l=some (T,q',l')→wrT T ++ l'=l:=by
 induction f with
 | zero=>intro q l T q' l' h;cases h
 | succ f ih =>
  intro q l T q' l' h
  rw [typR] at h
  split at h
  ·cases h
  cases l with
  | nil=>cases h
  | cons c l =>
   rw [bodyR] at h
   unfold kindR at h
   split at h
   ·rename_i h1
    split at h
    ·rename_i h4
     injection h with h;injection h with h5 h6;injection h6 with h6 h7
     have hc1:c=1:=UInt8.toNat_inj.mp (by rw [h1];rfl)
     rw [←h5,←h7,wrT_var,Int.toNat_natCast,be4_wr (by rw [List.length_take];omega),List.append_assoc,List.take_append_drop,hc1]
     rfl
    ·cases h
   ·rename_i h1
    split at h
    ·rename_i h2
     cases hn:nmR l with
     | none=>rw [hn] at h;cases h
     | some x =>
      obtain ⟨s,l1⟩:=x
      rw [hn] at h
      obtain ⟨ts,e1,e2⟩:=argsR_wr ih h
      obtain ⟨e3,-⟩:=nmR_wr hn
      have hc2:c=2:=UInt8.toNat_inj.mp (by rw [h2];rfl)
      rw [e1,wrT_con,←e3,←e2,hc2]
      simp
    ·rename_i h2
     split at h
     ·rename_i h3
      obtain ⟨ts,e1,e2⟩:=argsR_wr ih h
      rw [e1,wrT_oth (by omega) (by omega),Int.toNat_natCast,u8_back,←e2]
      simp
     ·cases h
theorem exsR_wr:∀ (n:Nat) (xs:List Ex) (l:List UInt8) (ys:List Ex) (l':List UInt8),exsR n xs l=some (ys,l')→∃ zs,ys=xs ++ zs∧zs.length=n∧exsB zs ++ l'=l:=by
 intro n
 induction n with
 | zero=>intro xs l ys l' h;rw [exsR] at h;injection h with h;injection h with h1 h2;exact ⟨[],by simp [h1],rfl,by simp [exsB,h2]⟩
 | succ n ih =>
  intro xs l ys l' h
  rw [exsR] at h
  cases hn:nmR l with
  | none=>rw [hn] at h;cases h
  | some x =>
   obtain ⟨s,l1⟩:=x
   rw [hn] at h
   simp only at h
   cases ht:typR 301 0 l1 with
   | none=>rw [ht] at h;cases h
   | some y =>
    obtain ⟨T,q1,l2⟩:=y
    rw [ht] at h
    obtain ⟨zs,e1,e2,e3⟩:=ih _ _ _ _ h
    obtain ⟨e4,-⟩:=nmR_wr hn
    have e5:=typR_wr _ _ _ _ _ _ ht
    refine ⟨⟨s,T⟩ :: zs,by rw [e1];simp,by simp [e2],?_⟩
    rw [exsB,exB,←e4,←e5,←e3]
    simp
def kindQ (g:Nat→List UInt8→Option (Ty × Nat × List UInt8)) (q x:Nat) (l:List UInt8):Option (Ty × Nat × List UInt8) :=
 if x=1 then (if 4≤l.length then some (.mk 1 (numB (l.take 4):Nat) ⟨#[]⟩ [],q,l.drop 4) else none)
  else if x=2 then (match nmR l with
   | none=>none
   | some (s,l)=>argsR g 2 s q l)
  else argsR g (x:Int) ⟨#[]⟩ q l
def bodyQ (g:Nat→List UInt8→Option (Ty × Nat × List UInt8)) (q:Nat):List UInt8→Option (Ty × Nat × List UInt8)
 | []=>none
 | k :: l=>kindQ g q k.toNat l
def typQ:Nat→Nat→List UInt8→Option (Ty × Nat × List UInt8)
 | 0,_,_=>none
 | f+1,q,l=>if 300 < q+1 then none else bodyQ (typQ f) (q+1) l
def exsQ:Nat→List Ex→List UInt8→Option (List Ex × List UInt8)
 | 0,xs,l=>some (xs,l)
 | n+1,xs,l=>match nmR l with
  | none=>none
  | some (s,l)=>match typQ 301 0 l with
   | none=>none
   | some (T,_,l)=>exsQ n (xs ++ [⟨s,T⟩]) l
theorem lstA_q {g g':Nat→List UInt8→Option (Ty × Nat × List UInt8)} (hg:∀ q l r,g q l=some r→g' q l=some r) :
  ∀ (n:Nat) (xs:List Ty) (q:Nat) (l:List UInt8) (r:List Ty × Nat × List UInt8),lstA g n xs q l=some r→lstA g' n xs q l=some r:=by
 intro n
 induction n with
 | zero=>intro xs q l r h;exact h
 | succ n ih =>
  intro xs q l r h
  rw [lstA] at h ⊢
  cases hq:g q l with
  | none=>rw [hq] at h;cases h
  | some x =>
   rw [hq] at h
   rw [hg _ _ _ hq]
   exact ih _ _ _ _ h
theorem argsR_q {g g':Nat→List UInt8→Option (Ty × Nat × List UInt8)} (hg:∀ q l r,g q l=some r→g' q l=some r) {k:Int} {s:ByteArray} {q:Nat} {l:List UInt8} {r:Ty × Nat × List UInt8} (h:argsR g k s q l=some r):argsR g' k s q l=some r:=by
 cases l with
 | nil=>cases h
 | cons c l =>
  rw [argsR] at h ⊢
  cases hq:lstA g c.toNat [] q l with
  | none=>rw [hq] at h;cases h
  | some x=>rw [hq] at h;rw [lstA_q hg _ _ _ _ _ hq];exact h
theorem typR_q (f:Nat):∀ (q:Nat) (l:List UInt8) (r:Ty × Nat × List UInt8),typR f q l=some r→typQ f q l=some r:=by
 induction f with
 | zero=>intro q l r h;cases h
 | succ f ih =>
  intro q l r h
  rw [typR] at h
  rw [typQ]
  split at h
  ·cases h
  rename_i hq
  rw [if_neg hq]
  cases l with
  | nil=>cases h
  | cons c l =>
   rw [bodyR] at h
   rw [bodyQ]
   unfold kindR at h
   unfold kindQ
   split at h
   ·rename_i h1
    rw [if_pos h1];exact h
   ·rename_i h1
    rw [if_neg h1]
    split at h
    ·rename_i h2
     rw [if_pos h2]
     cases hn:nmR l with
     | none=>rw [hn] at h;cases h
     | some x=>rw [hn] at h;exact argsR_q ih h
    ·rename_i h2
     rw [if_neg h2]
     split at h
     ·exact argsR_q ih h
     ·cases h
theorem exsR_q:∀ (n:Nat) (xs:List Ex) (l:List UInt8) (r:List Ex × List UInt8),exsR n xs l=some r→exsQ n xs l=some r:=by
 intro n
 induction n with
 | zero=>intro xs l r h;exact h
 | succ n ih =>
  intro xs l r h
  rw [exsR] at h
  rw [exsQ]
  cases hn:nmR l with
  | none=>rw [hn] at h;cases h
  | some x =>
   obtain ⟨s,l1⟩:=x
   rw [hn] at h
   simp only at h ⊢
   cases ht:typR 301 0 l1 with
   | none=>rw [ht] at h;cases h
   | some y =>
    obtain ⟨T,q1,l2⟩:=y
    rw [ht] at h
    rw [typR_q _ _ _ _ ht]
    exact ih _ _ _ h
end Go.Typ
namespace Go.Proofs.YtaalbcfpacpgfaaGreat
open Go.RowKit Go.Lib Go.Vfs Go.Par Go.Typ Go.Shelf
def decQ (L:List UInt8):Option (List Ex) :=
 if 2≤L.length then (match exsQ (numB (L.take 2)) [] (L.drop 2) with
  | none=>none
  | some (xs,_)=>if rightX xs=true∧encX xs=L then some xs else none)
 else none
theorem be2_wr {l:List UInt8} (h:l.length=2):[(numB l / 256).toUInt8,(numB l).toUInt8]=l:=by
 match l,h with
 | [a,b],_ =>
  have ha:=a.toNat_lt
  have hb:=b.toNat_lt
  have e:numB [a,b]=a.toNat * 256+b.toNat:=by simp [numB]
  rw [e]
  have e1:(a.toNat * 256+b.toNat) / 256=a.toNat:=by omega
  have e2:(a.toNat * 256+b.toNat).toUInt8=b:=by
   apply UInt8.toNat_inj.mp
   show (UInt8.ofNat _).toNat=_
   rw [UInt8.toNat_ofNat'];omega
  rw [e1,e2,u8_back]
theorem decX_wr {L:List UInt8} {xs:List Ex} (h:decX L=some xs):rightX xs=true∧encX xs=L∧decQ L=some xs:=by
 unfold decX at h
 split at h
 ·rename_i hc
  cases hx:exsR (numB (L.take 2)) [] (L.drop 2) with
  | none=>rw [hx] at h;cases h
  | some y =>
   obtain ⟨ys,l⟩:=y
   rw [hx] at h
   simp only at h
   split at h
   ·rename_i h2
    injection h with h
    subst h
    obtain ⟨zs,e1,e2,e3⟩:=exsR_wr _ _ _ _ _ hx
    rw [List.nil_append] at e1
    subst e1
    have hE:encX ys=L:=by
     rw [encX,e2]
     have:=be2_wr (l:=L.take 2) (by rw [List.length_take];omega)
     rw [this]
     rw [h2.1,List.append_nil] at e3
     rw [e3,List.take_append_drop]
    refine ⟨h2.2,hE,?_⟩
    rw [decQ,if_pos hc.1,exsR_q _ _ _ _ hx]
    simp only
    rw [if_pos ⟨h2.2,hE⟩]
   ·cases h
 ·cases h
theorem decQ_eq (L:List UInt8):decQ L=decX L:=by
 cases hx:decX L with
 | some xs=>exact (decX_wr hx).2.2
 | none =>
  cases hq:decQ L with
  | none=>rfl
  | some xs =>
   exfalso
   unfold decQ at hq
   split at hq
   ·cases he:exsQ (numB (L.take 2)) [] (L.drop 2) with
    | none=>rw [he] at hq;cases hq
    | some y =>
     obtain ⟨ys,l⟩:=y
     rw [he] at hq
     simp only at hq
     split at hq
     ·rename_i h2
      have:=decX_enc h2.1 []
      rw [List.append_nil,h2.2,hx,if_pos rfl] at this
      cases this
     ·cases hq
   ·cases hq
end Go.Proofs.YtaalbcfpacpgfaaGreat
