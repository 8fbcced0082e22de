/- Index: Publish. -/
import Derived.Test.YtaalbcfpacpgfaaGreatZaI9
set_option linter.unusedVariables false
set_option linter.unusedSimpArgs false
namespace Go.Proofs.YtaalbcfpacpgfaaGreat
open Go.RowKit Go.Lib Go.Vfs Go.Par Go.Typ Go.Shelf Go.Ix
set_option maxRecDepth 20000 in
theorem jappend_long (w:World) (pj:Nat) (A:Option Addr) (n c:Nat) (hn:65536 < n) (hn2:n≤9223372036854775807):Calls Tryz.prog 11 #[.pointer (some ⟨pj,0,none⟩),.slice A n c] w fun e w'=>e=.returned (.int .i64 20)∧w'=w:=by
 have g:(65536:Int) < (n:Int):=by omega
 go_enter Tryz.func11,Tryz.ntmps11
 go_wp2
 go_ret
 exact ⟨rfl,rfl⟩
def XPost (w:World) (px p:Nat) (F H S:Nat→Prop) (st:St) (gen:Nat) (base log:List (List UInt8)) (es:List En) (w':World):Prop :=
 ∃ F' H' S',XF w' px p st gen base log es F' H' S'∧Kept (fun k=>F k∨H k) w w'∧Grows w F F'∧Grows w H H'∧Grows w S S'
section
variable {w w':World} {px p gen:Nat} {st:St} {base log:List (List UInt8)} {es:List En} {F H S:Nat→Prop}
theorem XF.below (h:XF w px p st gen base log es F H S) (hb:Below w.heap.size w w'):XF w' px p st gen base log es F H S:=by
 obtain ⟨pj,mb,xs,G,hj,hi,he,hH,hS,hn⟩:=h
 exact ⟨pj,mb,xs,G,hj.below hb,hi.keep (hb.block _ hi.lt.1) (hb.block _ hi.lt.2) (fun b hk=>hb.block b (hS b hk).1),he,hH,fun k hk=>⟨by have:=(hS k hk).1;have:=hb.size;omega,(hS k hk).2⟩,hn⟩
theorem XPost.same (h:XF w px p st gen base log es F H S) (hb:Below w.heap.size w w'):XPost w px p F H S st gen base log es w' :=
 ⟨F,H,S,h.below hb,Kept.of_below hb,Grows.refl _ _,Grows.refl _ _,Grows.refl _ _⟩
end
theorem XPost.journal {w w2 w3:World} {px p gen' pj mb:Nat} {st':St} {base' log':List (List UInt8)} {F H S G:Nat→Prop} {xs:List EnR} (hb:Below w.heap.size w w2) (hi:IxAt w2 px pj mb xs S)
  (hH:∀ k,H k↔G k∨k=px∨k=mb) (hS:∀ k,S k→k < w.heap.size∧¬ F k∧¬ H k) (hn:¬ F px∧¬ F mb∧¬ G px∧¬ G mb) (hl:px < w.heap.size∧mb < w.heap.size) (hp:JPost w2 pj p F G st' gen' base' log' w3) :
  XPost w px p F H S st' gen' base' log' (xs.map (·.e)) w3∧IxAt w3 px pj mb xs S:=by
 obtain ⟨F',G',h1,h2,h3,h4⟩:=hp
 have hz:=hb.size
 have hz3:=h2.size
 have hi3:IxAt w3 px pj mb xs S:=hi.keep (h2.block _ (by omega) (fun h=>h.elim hn.1 hn.2.2.1)) (h2.block _ (by omega) (fun h=>h.elim hn.2.1 hn.2.2.2)) (fun b hb=>h2.block b (by have:=(hS b hb).1;omega) (fun h=>h.elim (hS b hb).2.1 (fun hg=>(hS b hb).2.2 ((hH b).2 (.inl hg)))))
 refine ⟨⟨F',fun k=>G' k∨k=px∨k=mb,S,⟨pj,mb,xs,G',h1,hi3,rfl,fun k=>Iff.rfl,fun k hk=>⟨by have:=(hS k hk).1;omega,fun hf=>?_,fun hg=>?_⟩,?_,?_,?_,?_⟩,?_,fun k hk=>?_,fun k hk=>?_,Grows.refl _ _⟩,hi3⟩
 ·rcases h3 k hf with h | h
  ·exact (hS k hk).2.1 h
  ·have:=(hS k hk).1;omega
 ·rcases hg with hg | hg
  ·rcases h4 k hg with h | h
   ·exact (hS k hk).2.2 ((hH k).2 (.inl h))
   ·have:=(hS k hk).1;omega
  ·exact (hS k hk).2.2 ((hH k).2 (.inr hg))
 ·intro h;rcases h3 _ h with h | h
  ·exact hn.1 h
  ·omega
 ·intro h;rcases h3 _ h with h | h
  ·exact hn.2.1 h
  ·omega
 ·intro h;rcases h4 _ h with h | h
  ·exact hn.2.2.1 h
  ·omega
 ·intro h;rcases h4 _ h with h | h
  ·exact hn.2.2.2 h
  ·omega
 ·exact (Kept.of_below hb).trans' ((h2.mono fun k _ h=>h.imp id fun hg=>(hH k).2 (.inl hg)))
 ·rcases h3 k hk with h | h
  ·exact .inl h
  ·right;omega
 ·rcases hk with hk | hk
  ·rcases h4 k hk with h | h
   ·exact .inl ((hH k).2 (.inl h))
   ·right;omega
  ·exact .inl ((hH k).2 (.inr hk))
theorem XPost.turned {w w3 w5:World} {px p gen pj mb:Nat} {st:St} {base log:List (List UInt8)} {F H S F' G' S5:Nat→Prop} {xs5:List EnR} (hj:JF w3 pj p st gen base log F' G') (hk:Kept (fun k=>F k∨H k) w w3) (hF:Grows w F F') (hG:∀ k,G' k→H k∨w.heap.size≤k)
  (hn:¬ F' px∧¬ F' mb∧¬ G' px∧¬ G' mb) (hpH:H px∧H mb) (h5:IxAt w5 px pj mb xs5 S5) (hk5:Kept (· = mb) w3 w5) (hS5:∀ k,S5 k→(S k∨w.heap.size≤k)∧k < w5.heap.size∧¬ F' k∧¬ G' k∧k≠px∧k≠mb) :
  XPost w px p F H S st gen base log (xs5.map (·.e)) w5:=by
 have hz:=hk.size
 have hj5:JF w5 pj p st gen base log F' G':=⟨hj.fs.keep fun k h=>hk5.block k (hj.fs.lt k h) (fun e=>hn.2.1 (e ▸ h)),hj.js.block fun k h=>hk5.block k (hj.js.lt k h) (fun e=>hn.2.2.2 (e ▸ h)),hj.apart⟩
 refine ⟨F',fun k=>G' k∨k=px∨k=mb,S5,⟨pj,mb,xs5,G',hj5,h5,rfl,fun k=>Iff.rfl,fun k hk=>⟨(hS5 k hk).2.1,(hS5 k hk).2.2.1,fun h=>?_⟩,hn⟩,?_,hF,fun k hk=>?_,fun k hk=>(hS5 k hk).1⟩
 ·rcases h with h | h | h
  ·exact (hS5 k hk).2.2.2.1 h
  ·exact (hS5 k hk).2.2.2.2.1 h
  ·exact (hS5 k hk).2.2.2.2.2 h
 ·exact hk.trans' (hk5.mono fun k _ h=>by rw [h];exact .inr hpH.2)
 ·rcases hk with hk | hk | hk
  ·exact hG k hk
  ·rw [hk];exact .inl hpH.1
  ·rw [hk];exact .inl hpH.2
def pubX (st:St) (gen:Nat) (log:List (List UInt8)) (es:List En) (e:En):St × Int × List (List UInt8) × List En :=
 if okE e then (if 65536 < (recE e).length then (st,20,log,es) else ((jAppend st gen log (recE e)).1,(jAppend st gen log (recE e)).2.1,(jAppend st gen log (recE e)).2.2,if (jAppend st gen log (recE e)).2.1=0 then withL keyE e es else es))
 else (st,200,log,es)
theorem pubX_bad {st:St} {gen:Nat} {log:List (List UInt8)} {es:List En} {e:En} (h:okE e=false):pubX st gen log es e=(st,200,log,es):=by unfold pubX;rw [h];rfl
theorem pubX_long {st:St} {gen:Nat} {log:List (List UInt8)} {es:List En} {e:En} (h:okE e=true) (hl:65536 < (recE e).length):pubX st gen log es e=(st,20,log,es):=by unfold pubX;rw [h,if_pos rfl,if_pos hl]
theorem pubX_app {st:St} {gen:Nat} {log:List (List UInt8)} {es:List En} {e:En} (h:okE e=true) (hl:¬ 65536 < (recE e).length):pubX st gen log es e=((jAppend st gen log (recE e)).1,(jAppend st gen log (recE e)).2.1,(jAppend st gen log (recE e)).2.2,if (jAppend st gen log (recE e)).2.1=0 then withL keyE e es else es):=by unfold pubX;rw [h,if_pos rfl,if_neg hl]
set_option maxRecDepth 20000 in
set_option maxHeartbeats 4000000 in
theorem publish_any (w:World) (px p gen:Nat) (st:St) (base log:List (List UInt8)) (es:List En) (F H S:Nat→Prop) (h:XF w px p st gen base log es F H S) (v:Value) (E:En) (hx:EntAt (fun g=>g < w.heap.size∧¬ F g∧¬ H g) w v E)
  (hm:(recE E).length≤65536→Modest st (12+(recE E).length)) (hll:log.length≤1000000) (hel:es.length≤1000000) :
  Calls Tryz.prog 21 #[.pointer (some ⟨px,0,none⟩),v] w fun e w'=>e=.returned (.int .i64 (pubX st gen log es E).2.1)∧XPost w px p F H S (pubX st gen log es E).1 gen base (pubX st gen log es E).2.2.1 (pubX st gen log es E).2.2.2 w':=by
 have HXF:=Lib.hid h
 obtain ⟨pj,mb,xs,G,hj,hi,he,hH,hS,hn⟩:=h
 subst he
 obtain ⟨P,hP⟩:∃ P:Ending→World→Prop,P=fun e w'=>e=.returned (.int .i64 (pubX st gen log (xs.map (·.e)) E).2.1)∧XPost w px p F H S (pubX st gen log (xs.map (·.e)) E).1 gen base (pubX st gen log (xs.map (·.e)) E).2.2.1 (pubX st gen log (xs.map (·.e)) E).2.2.2 w':=⟨_,rfl⟩
 have HPO:=Lib.hid hP
 rw [←hP]
 obtain ⟨A,c,rfl,hus,hex⟩:=hx
 have hlt:=hi.lt
 obtain ⟨W1,hW1⟩:∃ W1,W1=w.alloc (.cells #[.string E.uri,.int .i64 E.ver,.slice A E.exs.length c] 55):=⟨_,rfl⟩
 have hb1:Below w.heap.size w W1:=by rw [hW1];exact (Below.refl _ _).alloc (Nat.le_refl _) _
 have hz1:W1.heap.size=w.heap.size+1:=by rw [hW1];simp
 have hbx:W1.heap[w.heap.size]? = some (.cells #[.string E.uri,.int .i64 E.ver,.slice A E.exs.length c] 55 (0,0)):=by rw [hW1];exact heap_alloc_new _ _
 have HRE:=Lib.hid (record_any E (.agg #[.string E.uri,.int .i64 E.ver,.slice A E.exs.length c]) W1 ⟨A,c,rfl,hus,hex.keep fun g hg=>⟨by have:=hg.1;show g < W1.heap.size;omega,hb1.block g hg.1⟩⟩)
 have HB1:=Lib.hid hb1;have HZ1:=Lib.hid hz1;have HBX:=Lib.hid hbx;have HEX:=Lib.hid hex;have HM:=Lib.hid hm;have HJ:=Lib.hid hj;have HI:=Lib.hid hi;have HH:=Lib.hid hH;have HS:=Lib.hid hS;have HN:=Lib.hid hn;have HL:=Lib.hid hlt
 have y:=box3 hbx
 rw [hW1] at y
 obtain ⟨y0,y1,y2⟩:=y
 clear hP hm hj hi hH hS hn hus hex hlt hb1 hz1 hbx
 unfold enV
 go_enter Tryz.func21,Tryz.ntmps21
 go_wp2_with fail
 rw [←hW1]
 clear hW1 y0 y1 y2
 refine HRE.out.mono ?_
 rintro e w2 ⟨v2,rfl,hb2,ho2,hn2⟩
 have hz2:=hb2.size
 have hz1:=HZ1.out
 have hbw:Below w.heap.size w w2:=HB1.out.trans (hb2.mono (by omega))
 cases hok:okE E with
 | false =>
  have HE:Hid (P (.returned (.int .i64 200)) w2):=Lib.hid (by
   rw [HPO.out,pubX_bad hok]
   exact ⟨rfl,XPost.same HXF.out hbw⟩)
  clear ho2 hn2 hb2 hbw
  dsimp only [Bool.false_eq_true,if_false]
  go_wp2
  exact HE.out
 | true =>
  have ho2:=ho2 hok
  obtain ⟨A2,c2,hf2⟩:=ho2.form
  rw [byteCells_length] at hf2
  subst hf2
  have HOK:=Lib.hid hok
  have HU:Hid (E.uri.size≤64):=Lib.hid (okE_uri hok).2
  have hl:=HL.out
  have hix2:IxAt w2 px pj mb xs S:=HI.out.keep (hbw.block _ hl.1) (hbw.block _ hl.2) (fun b hk=>hbw.block b (HS.out b hk).1)
  have p0:w2.cell? ⟨px,0,none⟩=some (.pointer (some ⟨pj,0,none⟩)):=by simp [World.cell?,hix2.head]
  have hrl:=encX_len (okE_exs hok)
  have hrl2:(recE E).length≤200000000:=by
   have hu:=ba_len E.uri
   have:=(okE_uri hok).2
   unfold recE
   simp only [List.length_append,hu,be4_lengthQ,List.length_cons,List.length_nil]
   omega
  by_cases hlong:65536 < (recE E).length
  ·have HAP:=Lib.hid (jappend_long w2 pj A2 (recE E).length c2 hlong (by omega))
   have HE:Hid (P (.returned (.int .i64 20)) w2):=Lib.hid (by
    rw [HPO.out,pubX_long hok hlong]
    exact ⟨rfl,XPost.same HXF.out hbw⟩)
   clear ho2 hn2 hb2 hbw hok hix2
   dsimp only [if_true]
   go_wp2_with fail
   refine HAP.out.mono ?_
   rintro e w3 ⟨rfl,rfl⟩
   go_wp2
   exact HE.out
  have hsh:(recE E).length≤65536:=by omega
  have hjf2:=HJ.out.below hbw
  have HAP:=Lib.hid (jappend_any hjf2 (.slice A2 (recE E).length c2) (recE E) (by
   have h1:=Own.outS ho2 (F:=fun k=>k < W1.heap.size) (fun k hk=>hk)
   exact h1.keep fun b hb=>⟨⟨hb.1,fun hf=>hb.2 (by have:=HJ.out.fs.lt b hf;show b < W1.heap.size;omega)⟩,rfl⟩) hsh (HM.out hsh) hll)
  have HBW:=Lib.hid hbw;have HIX2:=Lib.hid hix2
  have HPB:=Lib.hid (pubX_app (st:=st) (gen:=gen) (log:=log) (es:=xs.map (·.e)) hok hlong)
  have hbx2:=(hb2.block _ (by omega)).trans HBX.out
  have HBX2:=Lib.hid hbx2
  clear ho2 hn2 hb2 hbw hok hix2 hjf2 hbx2 hrl hrl2 hlong
  dsimp only [if_true]
  go_wp2_with fail
  refine HAP.out.mono ?_
  rintro e w3 ⟨rfl,hjp⟩
  obtain ⟨hpost,hix3⟩:=XPost.journal HBW.out HIX2.out HH.out HS.out HN.out HL.out hjp
  obtain ⟨r,hr⟩:∃ r,r=(jAppend st gen log (recE E)).2.1:=⟨_,rfl⟩
  rw [←hr]
  by_cases hr0:r=0
  rotate_left
  ·have hne:(r != 0)=true:=by simpa using hr0
   have HE:Hid (P (.returned (.int .i64 r)) w3):=Lib.hid (by
    rw [HPO.out,HPB.out]
    simp only
    rw [←hr,if_neg hr0]
    exact ⟨rfl,hpost⟩)
   clear hpost hix3 hjp p0 hr
   go_wp2
   exact HE.out
  have HR0:Hid ((jAppend st gen log (recE E)).2.1=0):=Lib.hid (by rw [←hr,hr0])
  rw [hr0]
  clear hr hr0 r hpost
  obtain ⟨F3,G3,hj3,hk3,hgF,hgG⟩:=hjp
  have hzb:=HBW.out.size
  have hz3:=hk3.size
  have hnn:=HN.out
  have hl:=HL.out
  have HNE:Hid (px≠mb∧w.heap.size≠mb):=Lib.hid ⟨hix3.pm,by omega⟩
  have hbxF:¬ (F w.heap.size∨G w.heap.size):=fun h=>by
   rcases h with h|h
   ·have:=HJ.out.fs.lt _ h;omega
   ·have:=HJ.out.js.lt _ h;omega
  have hbx3:w3.heap[w.heap.size]? = some (.cells #[.string E.uri,.int .i64 E.ver,.slice A E.exs.length c] 55 (0,0)):=(hk3.block _ (by omega) hbxF).trans HBX2.out
  have HLT:Hid (px < w3.heap.size∧w.heap.size < w3.heap.size∧mb < w3.heap.size):=Lib.hid ⟨by omega,by omega,by omega⟩
  have HS3:Hid (∀ k,S k→k < w3.heap.size∧k < w.heap.size):=Lib.hid fun k hk=>⟨by have:=(HS.out k hk).1;omega,(HS.out k hk).1⟩
  have HIX3:=Lib.hid hix3
  have HSK:Hid (∀ W':World,W'.heap[px]? = w3.heap[px]?→W'.heap[w.heap.size]? = w3.heap[w.heap.size]?→W'.cell? ⟨px,1,none⟩=some (.map (some mb))∧W'.cell? ⟨w.heap.size,0,none⟩=some (.string E.uri)∧W'.cell? ⟨w.heap.size,1,none⟩=some (.int .i64 E.ver)∧W'.cell? ⟨w.heap.size,2,none⟩=some (.slice A E.exs.length c)):=Lib.hid fun W' h1 h2=>⟨by simp [World.cell?,h1,HIX3.out.head],(box3 (h2.trans hbx3)).1,(box3 (h2.trans hbx3)).2.1,(box3 (h2.trans hbx3)).2.2⟩
  have HS0:=Lib.hid (HSK.out w3.drew rfl rfl)
  have hrt:=okE_exs HOK.out
  have hex3:ExsAt (· < w3.drew.heap.size) w3.drew (.slice A E.exs.length c) E.exs:=HEX.out.keep fun g hg=>by
   have h1:w2.heap[g]? = w.heap[g]?:=HBW.out.block g hg.1
   have h2:w3.heap[g]? = w2.heap[g]?:=hk3.block g (by have:=hg.1;omega) (fun h=>by
    rcases h with h|h
    ·exact hg.2.1 h
    ·exact hg.2.2 ((HH.out g).2 (.inl h)))
   exact ⟨by have:=hg.1;show g < w3.heap.size;omega,h2.trans h1⟩
  have HCL:Hid (Calls Tryz.prog 61 #[.agg #[.string E.uri,.int .i64 E.ver,.slice A E.exs.length c]] w3.drew fun e w4=>∃ A4 c4,e=.returned (.agg #[.string E.uri,.int .i64 E.ver,.slice A4 E.exs.length c4])∧ExsAt (fun g=>w3.heap.size≤g∧g < w4.heap.size) w4 (.slice A4 E.exs.length c4) E.exs∧Below w3.heap.size w3 w4):=Lib.hid (by
   refine (ixclone_any E (fun y hy=>RowOk.of_parts (by have:=(rightT_iff.1 (right_each hrt y hy).2.1).1;omega)) (.agg #[.string E.uri,.int .i64 E.ver,.slice A E.exs.length c]) w3.drew ⟨A,c,rfl,by have:=HU.out;omega,hex3⟩ (by have:=rightX_len hrt;omega)).mono ?_
   rintro e w4 ⟨A4,c4,rfl,hx4,hb4⟩
   exact ⟨A4,c4,rfl,hx4,((Below.refl _ w3).drew).trans hb4⟩)
  have hxl:xs.length≤1000000:=by rw [List.length_map] at hel;exact hel
  have HFIN:Hid (∀ (w4 w5:World) (x:EnR),x.e=E→Below w3.heap.size w3 w4→IxAt w5 px pj mb (withL keyX x xs) (fun g=>S g∨(w3.heap.size≤g∧g < w4.heap.size))→Kept (· = mb) w4 w5→w5.heap.size=w4.heap.size→P (.returned (.int .i64 0)) w5):=Lib.hid fun w4 w5 x hxe hb4 hi5 hk5 hz5=>by
   have hz4:=hb4.size
   rw [HPO.out,HPB.out]
   simp only
   rw [HR0.out,if_pos rfl]
   refine ⟨rfl,?_⟩
   have hm:=map_withX x xs
   rw [hxe] at hm
   rw [←hm]
   refine XPost.turned (F':=F3) (G':=G3) (hj3.below hb4) (((Kept.of_below HBW.out).trans' (hk3.mono fun k _ h=>h.imp id fun hg=>(HH.out k).2 (.inl hg))).trans' ⟨hb4.os,hb4.tape,hb4.output,hb4.size,fun k hk _=>hb4.block k hk⟩) (fun k hk=>(hgF k hk).imp id fun h=>by omega) (fun k hk=>by
    rcases hgG k hk with h|h
    ·exact .inl ((HH.out k).2 (.inl h))
    ·right;omega) ⟨fun h=>?_,fun h=>?_,fun h=>?_,fun h=>?_⟩ ⟨(HH.out _).2 (.inr (.inl rfl)),(HH.out _).2 (.inr (.inr rfl))⟩ hi5 hk5 (fun k hk=>?_)
   ·rcases hgF _ h with h | h
    ·exact hnn.1 h
    ·omega
   ·rcases hgF _ h with h | h
    ·exact hnn.2.1 h
    ·omega
   ·rcases hgG _ h with h | h
    ·exact hnn.2.2.1 h
    ·omega
   ·rcases hgG _ h with h | h
    ·exact hnn.2.2.2 h
    ·omega
   ·rcases hk with hk | hk
    ·obtain ⟨s1,s2,s3⟩:=HS.out k hk
     have hh:=fun h=>s3 ((HH.out k).2 h)
     refine ⟨.inl hk,by omega,fun h=>?_,fun h=>?_,fun h=>hh (.inr (.inl h)),fun h=>hh (.inr (.inr h))⟩
     ·rcases hgF _ h with h | h
      ·exact s2 h
      ·omega
     ·rcases hgG _ h with h | h
      ·exact hh (.inl h)
      ·omega
    ·exact ⟨.inr (by omega),by omega,fun h=>by have:=hj3.fs.lt k h;omega,fun h=>by have:=hj3.js.lt k h;omega,by omega,by omega⟩
  clear hj3 hk3 hgF hgG hix3 hbx3 hbxF hex3 hrt p0 hnn
  go_wp2_with fail
  refine wp_region_held (S:=(fun w2:World=>w2.cell? ⟨px,1,none⟩=some (.map (some mb))∧w2.cell? ⟨w.heap.size,0,none⟩=some (.string E.uri)∧w2.cell? ⟨w.heap.size,1,none⟩=some (.int .i64 E.ver)∧w2.cell? ⟨w.heap.size,2,none⟩=some (.slice A E.exs.length c))) (by kernel_rfl) ?_
  refine takeD (i:=0) (s:=25) (v:=.pointer (some ⟨px,0,none⟩)) rfl rfl (by kernel_rfl) (by kernel_rfl) (by kernel_rfl) (fun _ _ _ h=>h) (Or.inl ⟨by rfl,fun w' hS=>by obtain ⟨s0,s1,s2,s3⟩:=hS;go_simp⟩) HS0.out ?_
  try simp only [List.setIfInBounds_toArray,List.set_cons_zero,List.set_cons_succ]
  refine takeD (i:=1) (s:=26) (v:=.pointer (some ⟨px,0,none⟩)) rfl rfl (by kernel_rfl) (by kernel_rfl) (by kernel_rfl) (fun _ _ _ h=>h) (Or.inl ⟨by rfl,fun w' hS=>by obtain ⟨s0,s1,s2,s3⟩:=hS;go_simp⟩) HS0.out ?_
  try simp only [List.setIfInBounds_toArray,List.set_cons_zero,List.set_cons_succ]
  refine takeD (i:=2) (s:=27) (v:=.pointer (some ⟨px,1,none⟩)) rfl rfl (by kernel_rfl) (by kernel_rfl) (by kernel_rfl) (fun _ _ _ h=>h) (Or.inl ⟨by rfl,fun w' hS=>by obtain ⟨s0,s1,s2,s3⟩:=hS;go_simp⟩) HS0.out ?_
  try simp only [List.setIfInBounds_toArray,List.set_cons_zero,List.set_cons_succ]
  refine takeD (i:=3) (s:=28) (v:=.map (some mb)) rfl rfl (by kernel_rfl) (by kernel_rfl) (by kernel_rfl) (fun _ _ _ h=>h) (Or.inl ⟨by rfl,fun w' hS=>by obtain ⟨s0,s1,s2,s3⟩:=hS;go_simp⟩) HS0.out ?_
  try simp only [List.setIfInBounds_toArray,List.set_cons_zero,List.set_cons_succ]
  refine takeD (i:=4) (s:=29) (v:=.pointer (some ⟨w.heap.size,0,none⟩)) rfl rfl (by kernel_rfl) (by kernel_rfl) (by kernel_rfl) (fun _ _ _ h=>h) (Or.inl ⟨by rfl,fun w' hS=>by obtain ⟨s0,s1,s2,s3⟩:=hS;go_simp⟩) HS0.out ?_
  try simp only [List.setIfInBounds_toArray,List.set_cons_zero,List.set_cons_succ]
  refine takeD (i:=5) (s:=30) (v:=.string E.uri) rfl rfl (by kernel_rfl) (by kernel_rfl) (by kernel_rfl) (fun _ _ _ h=>h) (Or.inl ⟨by rfl,fun w' hS=>by obtain ⟨s0,s1,s2,s3⟩:=hS;go_simp⟩) HS0.out ?_
  try simp only [List.setIfInBounds_toArray,List.set_cons_zero,List.set_cons_succ]
  refine takeD (i:=6) (s:=31) (v:=.agg #[.string E.uri,.int .i64 E.ver,.slice A E.exs.length c]) rfl rfl (by kernel_rfl) (by kernel_rfl) (by kernel_rfl) (fun _ _ _ h=>h) (Or.inl ⟨by rfl,fun w' hS=>by obtain ⟨s0,s1,s2,s3⟩:=hS;go_simp⟩) HS0.out ?_
  try simp only [List.setIfInBounds_toArray,List.set_cons_zero,List.set_cons_succ]
  refine wpAnyH_all (rs:=[7]) (by kernel_rfl) (by simp) ?_
  intro i hi
  simp only [List.mem_cons,List.not_mem_nil,or_false] at hi
  subst hi
  refine wpOp_of rfl rfl (fun K hK=>?_)
  go_simp
  refine HCL.out.mono ?_
  rintro e w4 ⟨A4,c4,rfl,hx4,hb4⟩
  have HX4:=Lib.hid hx4;have HB4:=Lib.hid hb4
  have HS4:=Lib.hid (HSK.out w4 (HB4.out.block _ HLT.out.1) (HB4.out.block _ HLT.out.2.1))
  have hz4:w3.heap.size≤w4.heap.size:=hb4.size
  obtain ⟨VV,hVV⟩:∃ VV:Value,VV=.agg #[.string E.uri,.int .i64 E.ver,.slice A4 E.exs.length c4]:=⟨_,rfl⟩
  have hlt:=HLT.out
  have hs3:=HS3.out
  have hix4:IxAt w4 px pj mb xs (fun g=>S g∨(w3.heap.size≤g∧g < w4.heap.size)):=(HIX3.out.keep (hb4.block _ hlt.1) (hb4.block _ hlt.2.2) (fun b hb=>hb4.block b (hs3 b hb).1)).sub (fun b hb=>.inl hb) ⟨fun hk=>hk.elim HIX3.out.np.1 (fun h=>by have:=h.1;omega),fun hk=>hk.elim HIX3.out.np.2 (fun h=>by have:=h.1;omega)⟩
  obtain ⟨w5,hrun,hix5,hk5,hz5⟩:=hix4.put (by omega) ⟨E,VV⟩ (by rw [hVV];exact ⟨A4,c4,rfl,(show E.uri.size≤_ by have:=HU.out;omega),hx4.keep fun g hg=>⟨.inr ⟨hg.1,hg.2⟩,rfl⟩⟩) (by show E.uri.size≤_;have:=HU.out;omega)
  have HF5:=Lib.hid (HFIN.out w4 w5 ⟨E,VV⟩ rfl HB4.out hix5 hk5 hz5)
  have HS5:=Lib.hid (HSK.out w5 ((hk5.block _ (by omega) HNE.out.1).trans (HB4.out.block _ HLT.out.1)) ((hk5.block _ (by omega) HNE.out.2).trans (HB4.out.block _ HLT.out.2.1)))
  dsimp only at hrun
  rw [hVV] at hrun
  clear hVV hix4 hix5 hk5 hx4 hb4 hlt hs3
  refine hK _ _ ⟨HS4.out,?_⟩
  clear hK K
  try simp only [List.setIfInBounds_toArray,List.set_cons_zero,List.set_cons_succ]
  refine wpAnyH_all (rs:=[8]) (by kernel_rfl) (by simp) ?_
  intro i hi
  simp only [List.mem_cons,List.not_mem_nil,or_false] at hi
  subst hi
  refine wpOp_of rfl rfl (fun K hK=>?_)
  go_simp
  refine hK _ _ ⟨HS5.out,?_⟩
  clear hK K
  try simp only [List.setIfInBounds_toArray,List.set_cons_zero,List.set_cons_succ]
  refine wpAnyH_done (by kernel_rfl) ?_ _
  go_wp2
  exact HF5.out
end Go.Proofs.YtaalbcfpacpgfaaGreat
