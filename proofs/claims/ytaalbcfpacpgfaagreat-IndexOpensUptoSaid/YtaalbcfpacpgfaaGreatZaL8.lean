/- The reference's lexer: the tokens, and which words are names. -/
import Derived.Test.YtaalbcfpacpgfaaGreatZaL7
set_option linter.unusedVariables false
set_option linter.unusedSimpArgs false
namespace Go.Proofs.YtaalbcfpacpgfaaGreat
open Go.RowKit Go.Lib Go.Vfs Go.Par Go.Typ
theorem tokE:ElemK Tryz.prog 210 213 3:=elemK_of (b:=24) (z:=.agg #[.int .i64 0,.int .i64 0,.int .i64 0]) Tryz.underlying210 (by kernel_rfl) (by decide) rfl (by decide)
structure Tok where
 kind:Nat
 from_:Nat
 to_:Nat
def Tok.cells (t:Tok):List Value:=[.int .i64 t.kind,.int .i64 t.from_,.int .i64 t.to_]
theorem tok_one (a b c:Nat):∀ u∈[Value.int .i64 a,.int .i64 b,.int .i64 c],u.oneCell'=true:=by
 intro u hu
 simp at hu
 rcases hu with rfl|rfl|rfl <;> rfl
def ToksOk (s:ByteArray) (i:Nat) (l:List Tok):Prop :=
 l.length≤i∧(∀ t∈l,t.kind=1→nameOk (s.extract t.from_ t.to_).data.toList=true)∧(nameOk s.data.toList=true→(l=[]∧i=0)∨(l=[⟨1,0,s.size⟩]∧i=s.size))
structure ToksAt (s:ByteArray) (B:Nat) (i:Nat) (l:List Tok) (v:Value) (W:World):Prop where
 ok:ToksOk s i l
 own:W.ownsRow B 213 3 v l.length (l.flatMap Tok.cells)
theorem ToksAt.push {s:ByteArray} {w W w3:World} {i j k:Nat} {l:List Tok} {v v3:Value} {us:List Value} {o:Obj} (h:ToksAt s w.heap.size i l v W) (hb:Below w.heap.size w W) (hus:us=l.flatMap Tok.cells) (hok:ToksOk s j (l ++ [⟨k,i,j⟩]))
  (hown:w3.ownsRow w.heap.size 213 3 v3 (l.length+1) (us ++ [.int .i64 k,.int .i64 i,.int .i64 j])) (hg:(W.alloc o).grownBy w3 v.ownBlock):ToksAt s w.heap.size j (l ++ [⟨k,i,j⟩]) v3 w3∧Below w.heap.size w w3:=by
 refine ⟨⟨hok,?_⟩,below_grow hb hb.size o hg (fun g e=>(h.own.lt g e).1)⟩
 rw [List.length_append,List.length_singleton,List.flatMap_append,←hus]
 simpa [Tok.cells] using hown
theorem ToksAt.drewN {s:ByteArray} {B i:Nat} {l:List Tok} {v:Value} {W:World} (h:ToksAt s B i l v W) (n:Nat):ToksAt s B i l v (W.drewN n) :=
 ⟨h.ok,ownsRow_block h.own fun _ _=>rfl⟩
def LexPost (s:ByteArray) (w:World) (e:Ending) (w':World):Prop :=
 ∃ (l:List Tok) (v:Value),e=.returned v∧w'.ownsRow w.heap.size 213 3 v l.length (l.flatMap Tok.cells)∧(∀ t∈l,t.kind=1→nameOk (s.extract t.from_ t.to_).data.toList=true)∧(nameOk s.data.toList=true→l=[⟨1,0,s.size⟩])∧Below w.heap.size w w'
theorem ToksAt.below {s:ByteArray} {B i:Nat} {l:List Tok} {v:Value} {W W':World} (h:ToksAt s B i l v W) (hb:Below W.heap.size W W'):ToksAt s B i l v W' :=
 ⟨h.ok,ownsRow_block h.own fun g e=>hb.block g (h.own.lt g e).2⟩
theorem toks_more {s:ByteArray} {i j k:Nat} {l:List Tok} (h:ToksOk s i l) (hi:i < s.size) (h1:i < j) (hk:k=1→nameOk (s.extract i j).data.toList=true) (hn:i=0→nameOk s.data.toList=true→k=1∧j=s.size):ToksOk s j (l ++ [⟨k,i,j⟩]):=by
 refine ⟨by have:=h.1;simp;omega,fun t ht e=>?_,fun hs=>?_⟩
 ·rcases List.mem_append.1 ht with ht | ht
  ·exact h.2.1 t ht e
  ·rw [List.mem_singleton.1 ht] at e ⊢
   exact hk e
 ·rcases h.2.2 hs with ⟨e1,e2⟩ | ⟨_,e2⟩
  ·obtain ⟨e3,e4⟩:=hn e2 hs
   right
   rw [e1,e2,e3,e4]
   exact ⟨rfl,rfl⟩
  ·omega
theorem toks_skip {s:ByteArray} {i j:Nat} {l:List Tok} (h:ToksOk s i l) (hi:i < s.size) (h1:i < j) (hn:i=0→nameOk s.data.toList=false):ToksOk s j l:=by
 refine ⟨by have:=h.1;omega,h.2.1,fun hs=>?_⟩
 rcases h.2.2 hs with ⟨_,e2⟩|⟨_,e2⟩
 ·rw [hn e2] at hs;cases hs
 ·omega
theorem name_white {s:ByteArray} {i:Nat} (hi:i < s.size) (h:whiteN (byteS s i)=true):i=0→nameOk s.data.toList=false:=fun e=>by
 subst e
 refine name_not hi fun h'=>?_
 have h:=of_decide_eq_true h
 rcases h' with h'|h'
 ·have h':=of_decide_eq_true h';omega
 ·omega
theorem name_remark {s:ByteArray} {i:Nat} (hi:i < s.size) (h:atB s i [40,42]=true):i=0→nameOk s.data.toList=false:=fun e=>by
 subst e
 refine name_not hi fun h'=>?_
 have hb:byteS s 0=40:=by
  unfold atB at h
  rw [List.drop_zero] at h
  unfold byteS
  cases hs:s.data.toList with
  | nil=>rw [hs] at h;cases h
  | cons c cs =>
   rw [hs] at h
   simp only [List.isPrefixOf,Bool.and_eq_true,beq_iff_eq] at h
   rw [←h.1];rfl
 rw [hb] at h'
 rcases h' with h'|h'
 ·exact absurd h' (by decide)
 ·exact absurd h' (by decide)
theorem lex_end {s:ByteArray} {w W:World} {l:List Tok} {v:Value} (h:ToksAt s w.heap.size s.size l v W) (hb:Below w.heap.size w W):LexPost s w (.returned v) W:=by
 refine ⟨l,v,rfl,h.own,h.ok.2.1,fun hs=>?_,hb⟩
 rcases h.ok.2.2 hs with ⟨_,e⟩|⟨e,_⟩
 ·exfalso
  have:s.data.toList=[]:=List.eq_nil_of_length_eq_zero (by rw [Array.length_toList];exact e)
  rw [this] at hs;cases hs
 ·exact e
def TokGood (s:ByteArray) (i k j:Nat):Prop:=i < j∧j≤s.size∧(k=1→nameOk (s.extract i j).data.toList=true)∧(i=0→nameOk s.data.toList=true→k=1∧j=s.size)
theorem tok_other {s:ByteArray} {i j:Nat} (h:OneOk s i 0 0) (h1:i < j) (h2:j≤s.size):TokGood s i 7 j :=
 ⟨h1,h2,(fun e=>by cases e),fun e hs=>by have:=(h.2.2 e hs).1;cases this⟩
theorem tok_of {s:ByteArray} {i k j:Nat} (h:OneOk s i k j) (hk:k≠0):TokGood s i k j:=by
 rcases h.1 with ⟨e,_⟩|⟨_,_,h3,h4⟩
 ·exact absurd e hk
 ·exact ⟨h3,h4,h.2.1,h.2.2⟩
theorem own_cells {W:World} {B k e n:Nat} {v:Value} {xs:List Value} (h:W.ownsRow B e k v n xs) (hn:0 < n):∃ g c,v=.slice (some ⟨g,0,none⟩) n c∧∀ j,j < n * k→W.cell? ⟨g,j,none⟩=xs[j]?:=by
 rcases h.2 with ⟨e,h0⟩|⟨g,cap,cur,e,hb,hh,hnc,hm,hc,ht⟩
 ·omega
 ·refine ⟨g,cap,e,fun j hj=>?_⟩
  rw [←ht,List.getElem?_take,if_pos hj]
  simp [World.cell?,hh]
theorem own_form {W:World} {B k e n:Nat} {v:Value} {xs:List Value} (h:W.ownsRow B e k v n xs):∃ A c,v=.slice A n c:=by
 rcases h.2 with ⟨e,h0⟩|⟨g,cap,cur,e,_⟩
 ·exact ⟨none,0,by rw [e,h0]⟩
 ·exact ⟨_,_,e⟩
def LexIn (s:ByteArray) (i:Nat) (w:World) (jv:Value) (W:World):Prop:=∃ j:Nat,i+1≤j∧j≤s.size∧jv=.int .i64 j∧Hid (Below w.heap.size w W)
set_option maxRecDepth 20000 in
set_option maxHeartbeats 4000000 in
theorem lex_any (s:ByteArray) (hs:s.size≤1000000000) (w:World):Calls Tryz.prog 159 #[.string s] w (LexPost s w):=by
 obtain ⟨P,hP⟩:∃ P,P=LexPost s w:=⟨_,rfl⟩
 have HPO:=Lib.hid hP
 rw [←hP]
 clear hP
 have HA:=fun (i:Nat) (hi:i≤s.size) W=>Lib.hid (r8at_any s ⟨#[40,42]⟩ i (by omega) hi (by decide) (by decide) W)
 have HR:=fun (i:Nat) (hi:i≤s.size) W=>Lib.hid (remark_any s i (by omega) hi W)
 have HO:=fun (i:Nat) (hi:i < s.size) W=>Lib.hid (one_any s i (by omega) hi W)
 go_enter Tryz.func159,Tryz.ntmps159
 go_wp2
 go_loopw [3,4] (fun ov iv W=>∃ (i:Nat) (l:List Tok) (v:Value),i≤s.size∧v=ov∧iv=.int .i64 i∧Hid (ToksAt s w.heap.size i l ov W)∧Hid (Below w.heap.size w W)) (fun _ iv _=>s.size - (RowKit.intOf iv).toNat)
 case atStart =>
  refine ⟨0,[],_,by omega,rfl,rfl,Lib.hid ⟨⟨by simp,by simp,fun _=>.inl ⟨rfl,rfl⟩⟩,?_⟩,Lib.hid ((Below.refl _ _).alloc (Nat.le_refl _) _)⟩
  exact World.ownsRow_made w #[] 0 (Nat.le_refl _) (by simp) (by simp)
 case round =>
  obtain ⟨i,l,v,hi,rfl,rfl,HT,HB⟩:=hrel
  by_cases hlt:i < s.size
  ·have hii:(i:Int) < (s.size:Int):=by omega
   have hxx:∃ x,s[i].toNat=x:=⟨_,rfl⟩
   obtain ⟨x,hx⟩:=hxx
   have HX2:Hid (byteS s i=x):=Lib.hid (by rw [←hx];exact (byteS_get s i hlt).symm)
   have HW:=Lib.hid (r8white_any x wr)
   have HZ:=Lib.hid HB.out.size
   cases hw:whiteN x with
   | true =>
    have HE:Hid (ToksAt s w.heap.size (i+1) l v wr):=Lib.hid ⟨toks_skip HT.out.ok hlt (Nat.lt_succ_self i) (name_white hlt (by rw [HX2.out];exact hw)),HT.out.own⟩
    rw [hw] at HW
    clear hw
    go_wp2_with fail
    refine HW.out.mono ?_
    rintro e w2 ⟨rfl,rfl⟩
    go_wp2
    go_roundw
    case rel=>exact ⟨i+1,l,v,by omega,rfl,by go_num,HE,HB⟩
    case measure=>simp [RowKit.intOf];omega
   | false =>
    rw [hw] at HW
    clear hw
    have HA1:=HA i hi
    have HR1:=HR i hi
    have HO1:=HO i hlt
    obtain ⟨b1,hb1⟩:∃ b1,b1=atB s i [40,42]:=⟨_,rfl⟩
    have HA1:∀ W,Hid (Calls Tryz.prog 181 #[.string s,.int .i64 i,.string ⟨#[40,42]⟩] W fun e w'=>e=.returned (.bool b1)∧∃ n,w'=W.drewN n):=by rw [hb1];exact HA1
    have HB1:Hid (b1=true→i=0→nameOk s.data.toList=false):=Lib.hid fun e=>name_remark hlt (by rw [←hb1];exact e)
    clear hb1 HA HR
    go_wp2_with fail
    refine HW.out.mono ?_
    rintro e w2 ⟨rfl,rfl⟩
    go_wp2_with fail
    refine (HA1 _).out.mono ?_
    rintro e w3 ⟨rfl,n1,rfl⟩
    cases b1 with
    | true =>
     have HN:=Lib.hid (HB1.out rfl)
     clear HB1 HA1 HO1 HO
     go_wp2_with fail
     refine (HR1 _).out.mono ?_
     rintro e w4 ⟨j,rfl,hj,n2,rfl⟩
     by_cases hj0:j=0
     ·subst hj0
      have HTD:=Lib.hid (HT.out.drewN (n1+n2))
      have HBD:Hid (Below w.heap.size w (w2.drewN (n1+n2))):=Lib.hid (below_drewN' HB.out _)
      have hown:=HTD.out.own
      have hll:l.length≤1000000000:=by have:=HT.out.ok.1;omega
      have HOK:Hid (ToksOk s s.size (l ++ [⟨7,i,s.size⟩])):=Lib.hid (toks_more HT.out.ok hlt hlt (fun e=>by cases e) (fun e hs=>by rw [HN.out e] at hs;cases hs))
      obtain ⟨us,hus⟩:∃ us,us=l.flatMap Tok.cells:=⟨_,rfl⟩
      rw [←hus] at hown
      have HUS:=Lib.hid hus
      have hz:w.heap.size≤w2.heap.size:=HB.out.size
      clear hus hj
      go_wp2_with (at_builtin;go_must (refine wpList_appK _ rfl _ _ _ rfl w.heap.size _ 3 tokE _ l.length us rfl (World.ownsRow.alloc hown _) ⟨w2.heap.size,0,none⟩ 1 1 [.int .i64 7,.int .i64 i,.int .i64 s.size] rfl rfl (cells_new (w2.drewN (n1+n2)) _ _) (tok_one 7 i s.size) (by omega) (by simp;omega) ?_);intro v3 w3 hown3 hg3 hat3)
      obtain ⟨h1,h2⟩:=HTD.out.push HBD.out HUS.out HOK.out hown3 hg3
      rw [HPO.out]
      exact lex_end h1 h2
     ·have hj2:i < j∧j≤s.size:=by omega
      obtain ⟨hj3,hj4⟩:=hj2
      have HE:Hid (ToksAt s w.heap.size j l v w2):=Lib.hid ⟨toks_skip HT.out.ok hlt hj3 HN.out,HT.out.own⟩
      clear hj
      have hjb:((j:Int) == 0)=false:=by simp;omega
      go_wp2
      go_roundw
      case rel=>exact ⟨j,l,v,hj4,rfl,by first | rfl | trivial,Lib.hid (HE.out.drewN _),Lib.hid (below_drewN' HB.out _)⟩
      case measure=>simp [RowKit.intOf];omega
    | false =>
     clear HB1 HR1
     have HA1':=HA1
     go_wp2_with fail
     refine (HO1 _).out.mono ?_
     rintro e w4 ⟨k,j,rfl,hok,hb4⟩
     have HOK:=Lib.hid hok
     have HB4:Hid (Below w2.heap.size w2 w4):=Lib.hid ((below_drewN' (Below.refl _ _) n1).trans hb4)
     have hk6:k≤6∧j≤s.size:=by rcases hok.1 with ⟨h1,h2⟩ | ⟨_,h1,_,h2⟩ <;> omega
     obtain ⟨hk6,hj6⟩:=hk6
     clear hok hb4 HA1 HA1' HW
     go_upto_if 44 with fail
     go_cut [6,7] from 11 to 75 (fun kv jv wx=>∃ k j:Nat,kv=.int .i64 k∧jv=.int .i64 j∧Hid (TokGood s i k j)∧Hid (Below w2.heap.size w2 wx))
     case first =>
      by_cases hk0:k=0
      ·subst hk0
       have HO0:Hid (OneOk s i 0 0):=Lib.hid (by
        have:=HOK.out
        rcases this.1 with ⟨_,e⟩|⟨e,_⟩
        ·subst e;exact this
        ·omega)
       go_wp2_with fail
       go_loopw [7] (fun jv W=>LexIn s i w2 jv W) (fun jv _=>s.size - (RowKit.intOf jv).toNat)
       case atStart=>exact ⟨i+1,by omega,by omega,by go_num,HB4⟩
       case round =>
        obtain ⟨j,hij,hjs,rfl,HBj⟩:=hrel
        have HG:=Lib.hid (tok_other HO0.out hij hjs)
        by_cases hjl:j < s.size
        ·have hjj:(j:Int) < (s.size:Int):=by omega
         obtain ⟨y,hy⟩:∃ y,s[j].toNat=y:=⟨_,rfl⟩
         have HWj:=Lib.hid (r8white_any y wr)
         have HOj:=HO j hjl
         generalize whiteN y=q at *
         go_wp2_with fail
         refine HWj.out.mono ?_
         rintro e w5 ⟨rfl,rfl⟩
         cases q with
         | true =>
          go_wp2_with fail
          go_meet
          exact ⟨7,j,rfl,rfl,HG,HBj⟩
         | false =>
          go_wp2_with fail
          refine (HOj _).out.mono ?_
          rintro e w6 ⟨k6,j6,rfl,hok6,hb6⟩
          have HB6:Hid (Below w2.heap.size w2 w6):=Lib.hid (HBj.out.trans (hb6.mono HBj.out.size))
          clear hok6 hb6
          by_cases hk6:k6=0
          ·subst hk6
           go_wp2_with fail
           go_roundw
           case rel=>(repeat with_reducible apply Exists.intro);exact ⟨⟨j+1,by omega,by omega,by go_num,HB6⟩,rfl⟩
           case measure=>simp [RowKit.intOf];omega
          ·have hkb:((k6:Int) != 0)=true:=by simp;omega
           go_wp2_with fail
           go_meet
           exact ⟨7,j,rfl,rfl,HG,HB6⟩
        ·have hjj:¬ (j:Int) < (s.size:Int):=by omega
         go_wp2_with fail
         go_meet
         exact ⟨7,j,rfl,rfl,HG,HBj⟩
      ·have hkb:((k:Int) == 0)=false:=by simp;omega
       have HG:=Lib.hid (tok_of HOK.out hk0)
       go_wp2_with fail
       go_meet
       exact ⟨k,j,rfl,rfl,HG,HB4⟩
     case rest =>
      obtain ⟨k,j,rfl,rfl,HG,HBc⟩:=hcut
      have HTD:=Lib.hid (HT.out.below HBc.out)
      have HBD:Hid (Below w.heap.size w wc):=Lib.hid (HB.out.trans (HBc.out.mono HB.out.size))
      have hown:=HTD.out.own
      have hll:l.length≤1000000000:=by have:=HT.out.ok.1;omega
      have HOKT:Hid (ToksOk s j (l ++ [⟨k,i,j⟩])):=Lib.hid (toks_more HT.out.ok hlt HG.out.1 HG.out.2.2.1 HG.out.2.2.2)
      obtain ⟨us,hus⟩:∃ us,us=l.flatMap Tok.cells:=⟨_,rfl⟩
      rw [←hus] at hown
      have HUS:=Lib.hid hus
      have hz:w.heap.size≤wc.heap.size:=HBD.out.size
      have hj1:i < j:=HG.out.1
      have hj2:j≤s.size:=HG.out.2.1
      clear hus
      go_wp2_with (at_builtin;go_must (refine wpList_appK _ rfl _ _ _ rfl w.heap.size _ 3 tokE _ l.length us rfl (World.ownsRow.alloc hown _) ⟨wc.heap.size,0,none⟩ 1 1 [.int .i64 k,.int .i64 i,.int .i64 j] rfl rfl (cells_new wc _ _) (tok_one k i j) (by omega) (by simp;omega) ?_);intro v3 w3 hown3 hg3 hat3)
      obtain ⟨h1,h2⟩:=HTD.out.push HBD.out HUS.out HOKT.out hown3 hg3
      go_roundw
      case rel=>exact ⟨j,_,v3,hj2,rfl,rfl,Lib.hid h1,Lib.hid h2⟩
      case measure=>simp [RowKit.intOf];omega
  ·have hil:i=s.size:=by omega
   subst hil
   have HE:=Lib.hid (lex_end HT.out HB.out)
   have hii:¬ ((s.size:Int) < (s.size:Int)):=by omega
   go_wp2
   rw [HPO.out]
   exact HE.out
set_option maxRecDepth 20000 in
set_option maxHeartbeats 1000000 in
theorem r8kind_any (s:ByteArray) (hs:s.size≤1000000000) (w:World) :
  Calls Tryz.prog 148 #[.string s] w fun e w'=>∃ z:Int,e=.returned (.int .i64 z)∧(z=1↔nameOk s.data.toList=true)∧Below w.heap.size w w':=by
 have HL:=Lib.hid (lex_any s hs w)
 go_enter Tryz.func148,Tryz.ntmps148
 go_wp2_with fail
 refine HL.out.mono ?_
 rintro e w2 ⟨l,v,rfl,hown,h1,h2,hb⟩
 have HB:=Lib.hid hb
 have HNL:Hid (l.length≠1→nameOk s.data.toList=false):=Lib.hid fun h=>by
  cases hn:nameOk s.data.toList with
  | false=>rfl
  | true=>rw [h2 hn] at h;exact absurd rfl h
 by_cases hl:l.length=1
 ·obtain ⟨t,rfl⟩:∃ t,l=[t]:=by
   match l,hl with
   | [t],_=>exact ⟨t,rfl⟩
  have HK:Hid (t.kind=1→nameOk (s.extract t.from_ t.to_).data.toList=true):=Lib.hid (h1 t (by simp))
  have HT:Hid (nameOk s.data.toList=true→t=⟨1,0,s.size⟩):=Lib.hid fun h=>by have:=h2 h;injection this
  obtain ⟨g,c,rfl,hc⟩:=own_cells hown (Nat.lt_of_sub_eq_succ rfl)
  have c0:w2.cell? ⟨g,0,none⟩=some (.int .i64 t.kind):=hc 0 (Nat.lt_of_sub_eq_succ rfl)
  have c1:w2.cell? ⟨g,1,none⟩=some (.int .i64 t.from_):=hc 1 (Nat.lt_of_sub_eq_succ rfl)
  have c2:w2.cell? ⟨g,2,none⟩=some (.int .i64 t.to_):=hc 2 (Nat.lt_of_sub_eq_succ rfl)
  clear hown h1 h2 hc hb HNL hl
  obtain ⟨k,f,o⟩:=t
  simp only at c0 c1 c2 HK
  have HE:Hid (f=0→o=s.size→(k=1↔nameOk s.data.toList=true)):=Lib.hid fun e1 e2=>by
   subst e1 e2
   refine ⟨fun e=>?_,fun h=>?_⟩
   ·have:=HK.out e;rwa [extract_all] at this
   ·have:=HT.out h;injection this
  have HF:Hid (¬ (f=0∧o=s.size∧k≠7)→nameOk s.data.toList=false):=Lib.hid fun h=>by
   cases hn:nameOk s.data.toList with
   | false=>rfl
   | true =>
    have:=HT.out hn
    injection this with e1 e2 e3
    exact absurd ⟨e2,e3,by omega⟩ h
  clear HK HT
  have k1:((f:Int) != 0)=!decide (f=0):=by
   by_cases h:f=0
   ·rw [decide_eq_true h,h];rfl
   ·have:¬ (f:Int)=0:=by omega
    rw [decide_eq_false h];simp [this,h]
  have k2:((o:Int) != (s.size:Int))=!decide (o=s.size):=by
   by_cases h:o=s.size
   ·rw [decide_eq_true h,h];simp
   ·have:¬ (o:Int)=(s.size:Int):=by omega
    rw [decide_eq_false h];simp [this,h]
  have k3:((k:Int) == 7)=decide (k=7):=by
   by_cases h:k=7
   ·rw [decide_eq_true h,h];rfl
   ·have:¬ (k:Int)=7:=by omega
    rw [decide_eq_false h];simp [this,h]
  by_cases e1:f=0
  ·by_cases e2:o=s.size
   ·by_cases e3:k=7
    ·have HFF:=Lib.hid (HF.out fun h=>h.2.2 e3)
     rw [decide_eq_true e1] at k1;rw [decide_eq_true e2] at k2;rw [decide_eq_true e3] at k3
     clear e1 e2 e3
     go_wp2
     go_ret
     exact ⟨0,rfl,by rw [HFF.out];decide,HB.out⟩
    ·have HEE:=Lib.hid (HE.out e1 e2)
     rw [decide_eq_true e1] at k1;rw [decide_eq_true e2] at k2;rw [decide_eq_false e3] at k3
     clear e1 e2 e3
     go_wp2
     go_ret
     refine ⟨k,rfl,?_,HB.out⟩
     rw [←HEE.out];omega
   ·have HFF:=Lib.hid (HF.out fun h=>e2 h.2.1)
    rw [decide_eq_true e1] at k1;rw [decide_eq_false e2] at k2
    clear e1 e2 k3
    go_wp2
    go_ret
    exact ⟨0,rfl,by rw [HFF.out];decide,HB.out⟩
  ·have HFF:=Lib.hid (HF.out fun h=>e1 h.1)
   rw [decide_eq_false e1] at k1
   clear e1 k2 k3
   go_wp2
   go_ret
   exact ⟨0,rfl,by rw [HFF.out];decide,HB.out⟩
 ·have HFF:=Lib.hid (HNL.out hl)
  obtain ⟨A,c,rfl⟩:=own_form hown
  have hlb:((l.length:Int) != 1)=true:=by simp;omega
  clear hown h1 h2 hb hl
  go_wp2
  go_ret
  exact ⟨0,rfl,by rw [HFF.out];decide,HB.out⟩
end Go.Proofs.YtaalbcfpacpgfaaGreat
