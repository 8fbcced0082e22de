/- Index: Log; an index that is held; alive. -/
import Derived.Test.YtaalbcfpacpgfaaGreatZaI10
set_option linter.unusedVariables false
set_option linter.unusedSimpArgs false
namespace Go.Proofs.YtaalbcfpacpgfaaGreat
open Go.RowKit Go.Lib Go.Vfs Go.Par Go.Typ Go.Shelf Go.Ix
theorem ixlog_any (w:World) (px p gen:Nat) (st:St) (base log:List (List UInt8)) (es:List En) (F H S:Nat→Prop) (h:XF w px p st gen base log es F H S):Calls Tryz.prog 29 #[.pointer (some ⟨px,0,none⟩)] w fun e w'=>e=.returned (.int .i64 (log.length:Nat))∧∃ n,w'=w.drewN n:=by
 obtain ⟨pj,mb,xs,G,hj,hi,-⟩:=h
 have p0:w.cell? ⟨px,0,none⟩=some (.pointer (some ⟨pj,0,none⟩)):=by simp [World.cell?,hi.head]
 have HL:=Lib.hid (jlog_any hj)
 clear hj hi
 go_enter Tryz.func29,Tryz.ntmps29
 go_wp2_with fail
 refine HL.out.mono ?_
 rintro e w2 ⟨rfl,n,rfl⟩
 go_wp2
 go_ret
 exact ⟨rfl,n,rfl⟩
structure XH (B:Nat) (w0 w:World) (px p:Nat) (st:St) (gen:Nat) (base log:List (List UInt8)) (es:List En) (F H S:Nat→Prop):Prop where
 xf:XF w px p st gen base log es F H S
 new:∀ k,(F k∨H k)→B≤k
 below:Below B w0 w
section
variable {B:Nat} {w0 w w':World} {px p gen gen':Nat} {st st':St} {base log base' log':List (List UInt8)} {es es':List En} {F H S:Nat→Prop}
theorem XH.size (h:XH B w0 w px p st gen base log es F H S) (hB:B≤w0.heap.size):B≤w.heap.size:=Nat.le_trans hB h.below.size
theorem XH.go (h:XH B w0 w px p st gen base log es F H S) (hB:B≤w0.heap.size) (hb:Below w.heap.size w w'):XH B w0 w' px p st gen base log es F H S :=
 ⟨h.xf.below hb,h.new,h.below.trans (hb.mono (h.size hB))⟩
theorem XH.op (h:XH B w0 w px p st gen base log es F H S) (hB:B≤w0.heap.size) (hp:XPost w px p F H S st' gen' base' log' es' w'):∃ F' H' S',XH B w0 w' px p st' gen' base' log' es' F' H' S'∧Kept (fun k=>F k∨H k) w w'∧Grows w F F'∧Grows w H H'∧Grows w S S':=by
 obtain ⟨F',H',S',h1,h2,h3,h4,h5⟩:=hp
 have hs:=h.size hB
 refine ⟨F',H',S',⟨h1,fun k hk=>?_,h.below.trans (h2.below hs fun k hk=>h.new k hk)⟩,h2,h3,h4,h5⟩
 rcases hk with hk|hk
 ·rcases h3 k hk with a | a
  ·exact h.new k (.inl a)
  ·omega
 ·rcases h4 k hk with a | a
  ·exact h.new k (.inr a)
  ·omega
theorem XH.ix (h:XH B w0 w px p st gen base log es F H S):∃ pj mb xs,IxAt w px pj mb xs S∧xs.map (·.e)=es∧∀ k,S k→k < w.heap.size:=by
 obtain ⟨pj,mb,xs,G,hj,hi,he,hH,hS,hn⟩:=h.xf
 exact ⟨pj,mb,xs,hi,he,fun k hk=>(hS k hk).1⟩
end
theorem XH.entries {B:Nat} {w0 w:World} {px p gen:Nat} {st:St} {base log:List (List UInt8)} {es:List En} {F H S:Nat→Prop} (h:XH B w0 w px p st gen base log es F H S) (hg:Ix.Good es) (hl:es.length≤100000) :
  Calls Tryz.prog 18 #[.pointer (some ⟨px,0,none⟩)] w fun e w'=>∃ A c,e=.returned (.slice A es.length c)∧EntsAt (fun g=>w.heap.size≤g∧g < w'.heap.size) w' (.slice A es.length c) es∧Below w.heap.size w w':=by
 obtain ⟨pj,mb,xs,hi,rfl,hS⟩:=h.ix
 refine (entries_any w px pj mb xs S hi hS hg (by simpa using hl)).mono ?_
 rintro e w' ⟨v,rfl,he,hb⟩
 obtain ⟨A,c,rfl,-,-⟩:=he.form
 exact ⟨A,c,rfl,he,hb⟩
theorem XH.find {B:Nat} {w0 w:World} {px p gen:Nat} {st:St} {base log:List (List UInt8)} {es:List En} {F H S:Nat→Prop} (h:XH B w0 w px p st gen base log es F H S) (hg:Ix.Good es) (s:ByteArray) (hs:s.size≤9223372036854775807) :
  Calls Tryz.prog 22 #[.pointer (some ⟨px,0,none⟩),.string s] w (FindPostX es s.data.toList w):=by
 obtain ⟨pj,mb,xs,hi,rfl,hS⟩:=h.ix
 exact ixfind_any w px pj mb xs S hi hS hg s hs
theorem IxOpenPost.held {B:Nat} {w0 w w':World} {p:Nat} {F:Nat→Prop} {st:St} {g:Nat} {ps ls:List (List UInt8)} {es:List En} {e:Ending} (h:IxOpenPost w p F (st,.ok (g,ps,ls)) e w') (hr:replay [] (ps ++ ls)=some es) (hb:Below B w0 w) (hB:B≤w0.heap.size) (hF:∀ k,F k→B≤k) :
  ∃ px F' H S,e=.returned (.tuple #[.pointer (some ⟨px,0,none⟩),.int .i64 0])∧XH B w0 w' px p st g ps ls es F' H S∧(∀ k,(H k∨S k)→w.heap.size≤k)∧Kept F w w'∧Grows w F F':=by
 obtain ⟨F',h1,h2,h3,hres⟩:=h
 unfold IxRes at hres
 simp only [hr] at hres
 obtain ⟨px,H,S,rfl,hxf,hHS⟩:=hres
 have hz:=hb.size
 refine ⟨px,F',H,S,rfl,⟨hxf,fun k hk=>?_,hb.trans (h2.below (by omega) hF)⟩,hHS,h2,h3⟩
 rcases hk with hk|hk
 ·rcases h3 k hk with a | a
  ·exact hF k a
  ·omega
 ·have:=hHS k (.inl hk);omega
theorem jAppend_onX (fs:List File) (gen:Nat) (log:List (List UInt8)) (pay:List UInt8):jAppend ⟨-1,fs⟩ gen log pay=(⟨-1,appF nLog (frameB gen pay) fs⟩,0,log ++ [pay]):=by
 unfold jAppend stAppend
 rw [if_pos (by decide),do_on (by decide)]
 rfl
theorem pubX_on (fs:List File) (gen:Nat) (log:List (List UInt8)) (es:List En) {e:En} (h:okE e=true) (hl:(recE e).length≤65536):pubX ⟨-1,fs⟩ gen log es e=(⟨-1,appF nLog (frameB gen (recE e)) fs⟩,0,log ++ [recE e],withL keyE e es):=by
 rw [pubX_app h (by omega),jAppend_onX]
 rfl
def en0:En:=⟨⟨#[97]⟩,3,[]⟩
theorem en0_ok:okE en0=true:=by kernel_rfl
theorem en0_rec:recE en0=[1,1,97,0,0,0,3,0,0]:=by kernel_rfl
theorem en0_good:Ix.Good [en0]:=⟨by simp [Rising],fun e he=>by simp at he;subst he;exact en0_ok⟩
set_option maxRecDepth 20000 in
set_option maxHeartbeats 4000000 in
theorem ixalive_any (w:World):Calls Tryz.prog 8 #[] w fun e w'=>e=.returned (.bool true)∧Below w.heap.size w w':=by
 go_enter Tryz.func8,Tryz.ntmps8
 go_wp2_with fail
 refine (new_fs (-1) w).mono ?_
 rintro e w1 ⟨p,F,rfl,hfs,hF,hb1⟩
 have hz1:=hb1.size
 have HOP:=Lib.hid (ixopen_any w1 p ⟨-1,[]⟩ F hfs Calm.nil (by omega) (by omega) (by decide) (fun x hx=>by rw [open_new] at hx;injection hx with hx;subst hx;exact ⟨by decide,fun l hl=>(by cases hl)⟩))
 have HF:=Lib.hid hF;have HB1:=Lib.hid hb1
 clear hfs hF hb1
 go_wp2_with fail
 refine HOP.out.mono ?_
 rintro e w2 hop
 rw [open_new] at hop
 obtain ⟨px,F2,H2,S2,rfl,hx2,-⟩:=hop.held (es:=[]) rfl HB1.out (Nat.le_refl _) (fun k hk=>(HF.out k hk).1)
 have HX2:=Lib.hid hx2
 clear hop hx2 HOP HF HB1
 have HRE:=Lib.hid (record_any en0 (.agg #[.string ⟨#[97]⟩,.int .i64 3,.slice none 0 0]) w2 ⟨none,0,rfl,by decide,ExsAt.nil _ _ _ _ (Nat.zero_le _)⟩)
 go_wp2_with fail
 refine HRE.out.mono ?_
 rintro e w3 ⟨v3,rfl,hb3,ho3,-⟩
 have ho3:=ho3 en0_ok
 rw [en0_rec] at ho3
 have hx3:=HX2.out.go (Nat.le_refl _) hb3
 obtain ⟨A3,c3,rfl⟩:=ho3.form
 have HX3:=Lib.hid hx3;have HO3:=Lib.hid ho3.seg
 have HEN:=Lib.hid en0_ok
 rw [en0_ok]
 clear HX2 HRE hb3 ho3 hx3
 obtain ⟨W4,hW4⟩:∃ W4,W4=w3.alloc (.cells #[.int .u8 1,.int .u8 1,.int .u8 97,.int .u8 0,.int .u8 0,.int .u8 0,.int .u8 3,.int .u8 0,.int .u8 0] 5):=⟨_,rfl⟩
 have hb4:Below w3.heap.size w3 W4:=by rw [hW4];exact (Below.refl _ _).alloc (Nat.le_refl _) _
 have hsg4:Seg W4 W4.heap.size (.slice (some ⟨w3.heap.size,0,none⟩) 9 9) (byteCells [1,1,97,0,0,0,3,0,0]):=by
  rw [hW4]
  have:=Seg.new w3 5 #[.int .u8 1,.int .u8 1,.int .u8 97,.int .u8 0,.int .u8 0,.int .u8 0,.int .u8 3,.int .u8 0,.int .u8 0] (byteCells [1,1,97,0,0,0,3,0,0]) rfl (by decide)
  exact this.more (by simp)
 have HSB:=Lib.hid (sameBytes_any _ _ _ _ _ W4 ((HO3.out.below hb4).more hb4.size) hsg4)
 have HX4:=Lib.hid (HX3.out.go (Nat.le_refl _) hb4)
 clear HX3 hb4 hsg4
 dsimp only [if_true]
 go_wp2_with fail
 rw [←hW4]
 refine HSB.out.mono ?_
 rintro e w5 ⟨he5,n5,rfl⟩
 replace he5:e=.returned (.bool true):=he5
 subst he5
 have hx5:=HX4.out.go (Nat.le_refl _) (below_drewN (Below.refl W4.heap.size W4) n5)
 have hlen:(recE en0).length=9:=by rw [en0_rec];rfl
 have HPU:=Lib.hid (publish_any (W4.drewN n5) px p 0 ⟨-1,[]⟩ [] [] [] F2 H2 S2 hx5.xf (.agg #[.string ⟨#[97]⟩,.int .i64 3,.slice none 0 0]) en0 ⟨none,0,rfl,by decide,ExsAt.nil _ _ _ _ (Nat.zero_le _)⟩ (fun _=>by rw [hlen];exact Calm.nil.modest (by decide) (by decide) (by decide)) (by decide) (by decide))
 rw [pubX_on [] 0 [] [] en0_ok (by rw [hlen];decide)] at HPU
 have HX5:=Lib.hid hx5
 clear hx5 hlen HSB HX4 hW4
 go_wp2_with fail
 refine HPU.out.mono ?_
 rintro e w6 ⟨rfl,hp6⟩
 obtain ⟨F6,H6,S6,hx6,-⟩:=HX5.out.op (Nat.le_refl _) hp6
 have HX6:=Lib.hid hx6
 have HFI:=Lib.hid (hx6.find en0_good ⟨#[97]⟩ (by decide))
 clear hp6 hx6 HX5 HPU
 go_wp2_with fail
 refine HFI.out.mono ?_
 rintro e w7 ⟨A7,c7,he7,-,hb7⟩
 replace he7:e=.returned (.tuple #[.agg #[.string ⟨#[97]⟩,.int .i64 3,.slice A7 0 c7],.bool true]):=he7
 subst he7
 have hb8:Below w7.heap.size w7 (w7.alloc (.cells #[.string ⟨#[97]⟩,.int .i64 3,.slice A7 0 c7] 55)):=(Below.refl _ _).alloc (Nat.le_refl _) _
 have HX8:=Lib.hid ((HX6.out.go (Nat.le_refl _) hb7).go (Nat.le_refl _) hb8)
 have HES:=Lib.hid (HX8.out.entries en0_good (by decide))
 clear HX6 HFI hb7 hb8
 go_wp2_with fail
 refine HES.out.mono ?_
 rintro e w9 ⟨A9,c9,rfl,-,hb9⟩
 have HX9:=Lib.hid (HX8.out.go (Nat.le_refl _) hb9)
 clear hb9 HES HX8
 go_wp2_with fail
 refine (ixlog_any _ _ _ _ _ _ _ _ _ _ _ HX9.out.xf).mono ?_
 rintro e w10 ⟨he,n10,hw10⟩
 replace he:e=.returned (.int .i64 1):=he
 subst he
 have HB10:Hid (Below w.heap.size w w10):=Lib.hid (by rw [hw10];exact below_drewN HX9.out.below n10)
 clear hw10
 go_wp2
 go_ret
 exact ⟨rfl,HB10.out⟩
end Go.Proofs.YtaalbcfpacpgfaaGreat
