/- Index: Open. -/
import Derived.Test.YtaalbcfpacpgfaaGreatZaIB
set_option linter.unusedVariables false
set_option linter.unusedSimpArgs false
namespace Go.Proofs.YtaalbcfpacpgfaaGreat
open Go.RowKit Go.Lib Go.Vfs Go.Par Go.Typ Go.Shelf Go.Ix
def XF (w:World) (px p:Nat) (st:St) (gen:Nat) (base log:List (List UInt8)) (es:List En) (F H S:Nat→Prop):Prop :=
 ∃ pj mb xs G,JF w pj p st gen base log F G∧IxAt w px pj mb xs S∧xs.map (·.e)=es∧(∀ k,H k↔G k∨k=px∨k=mb)∧(∀ k,S k→k < w.heap.size∧¬ F k∧¬ H k)∧(¬ F px∧¬ F mb∧¬ G px∧¬ G mb)
def IxRes (w w':World) (p:Nat) (F':Nat→Prop) (r:St × Except Int (Nat × List (List UInt8) × List (List UInt8))) (e:Ending):Prop:=match r.2 with
 | .error n=>e=.returned (.tuple #[.pointer none,.int .i64 n])
 | .ok x=>match replay [] (x.2.1 ++ x.2.2) with
  | none=>e=.returned (.tuple #[.pointer none,.int .i64 200])
  | some es=>∃ px H S,e=.returned (.tuple #[.pointer (some ⟨px,0,none⟩),.int .i64 0])∧XF w' px p r.1 x.1 x.2.1 x.2.2 es F' H S∧∀ k,(H k∨S k)→w.heap.size≤k
def IxOpenPost (w:World) (p:Nat) (F:Nat→Prop) (r:St × Except Int (Nat × List (List UInt8) × List (List UInt8))) (e:Ending) (w':World):Prop:=∃ F',Fsy w' p r.1 F'∧Kept F w w'∧Grows w F F'∧IxRes w w' p F' r e
theorem replay_le:∀ (bs:List (List UInt8)) (es es':List En),replay es bs=some es'→es'.length≤es.length+bs.length
 | [],es,es',h=>by cases h;simp
 | b :: bs,es,es',h=>by
  rw [replay] at h
  cases hs:stepE es b with
  | none=>rw [hs] at h;cases h
  | some e2 =>
   rw [hs] at h
   have h1:=replay_le bs e2 es' h
   have h2:e2.length≤es.length+1:=by
    unfold stepE at hs
    have hd:∀ s,(dropL keyE s es).length≤es.length:=fun s=>List.length_filter_le _ _
    have hp:∀ (x:En) (l:List En),(putL keyE x l).length=l.length+1:=by
     intro x l
     induction l with
     | nil=>rfl
     | cons y l ih=>unfold putL;split <;> simp [ih]
    split at hs
    ·cases hs
    ·cases hs;unfold withL;rw [hp];have:=hd (keyE ‹En›);omega
    ·cases hs;have:=hd (keyE ‹En›);omega
   rw [List.length_cons];omega
structure OpI (W2:World) (px pj mb:Nat) (ls:List (List UInt8)) (k:Nat) (W:World):Prop where
 ex:∃ es xs,replay [] (ls.take k)=some es∧xs.map (·.e)=es∧IxAt W px pj mb xs (fun g=>W2.heap.size≤g∧g < W.heap.size)
 kept:Kept (· = mb) W2 W
theorem replay_fail {ls:List (List UInt8)} {es0 es:List En} {k:Nat} (hk:k < ls.length) (h:replay es0 (ls.take k)=some es) (hs:stepE es (ls.getD k [])=none):replay es0 ls=none:=by
 have e:ls=ls.take k ++ (ls.getD k [] :: ls.drop (k+1)):=by
  rw [List.getD_eq_getElem?_getD,List.getElem?_eq_getElem hk]
  simp
 rw [e,replay_append,h]
 simp only [replay,hs]
theorem replay_take {ls:List (List UInt8)} {es0 es es':List En} {k:Nat} (hk:k < ls.length) (h:replay es0 (ls.take k)=some es) (hs:stepE es (ls.getD k [])=some es'):replay es0 (ls.take (k+1))=some es':=by
 rw [List.take_succ_eq_append_getElem hk,replay_snoc h]
 rw [List.getD_eq_getElem?_getD,List.getElem?_eq_getElem hk] at hs
 exact hs
theorem agg3_inj {s s':ByteArray} {n n':Int} {A A':Option Addr} {m m' c c':Nat} (h:Value.agg #[.string s,.int .i64 n,.slice A m c]=.agg #[.string s',.int .i64 n',.slice A' m' c']):s=s'∧n=n'∧A=A'∧m=m'∧c=c':=by
 simpa using h
theorem openSt_err {st:St} {n:Int} (h:(openSt st).2=.error n):n≠0:=by
 unfold openSt at h
 split at h
 ·split at h
  ·injection h with h;omega
  ·split at h
   ·cases h
   ·rename_i h2;injection h with h;rw [←h];exact h2
 ·rename_i h2;injection h with h;rw [←h];exact h2
set_option maxRecDepth 20000 in
set_option maxHeartbeats 4000000 in
theorem ixopen_any (w:World) (p:Nat) (st:St) (F:Nat→Prop) (hf:Fsy w p st F) {k d:Nat} (hc:Calm st.files k d) (hk:k≤1000) (hd:d≤2000000) (hpw:st.power≤9223372036854775807)
  (hbd:∀ x,(openSt st).2=.ok x→x.2.1.length+x.2.2.length≤100000∧∀ l∈x.2.1 ++ x.2.2,l.length≤1000000) :
  Calls Tryz.prog 15 #[.pointer (some ⟨p,0,none⟩)] w (IxOpenPost w p F (openSt st)):=by
 have HOP:=Lib.hid (jopen_any w p st F hf hc hk hd hpw)
 have HF0:=Lib.hid hf
 obtain ⟨r,hr⟩:∃ r,r=openSt st:=⟨_,rfl⟩
 rw [←hr] at HOP hbd
 rw [←hr]
 obtain ⟨P,hP⟩:∃ P,P=IxOpenPost w p F r:=⟨_,rfl⟩
 have HPO:=Lib.hid hP
 rw [←hP]
 have HBD:=Lib.hid hbd
 have HERR:Hid (∀ n,r.2=.error n→n≠0):=Lib.hid fun n h=>openSt_err (st:=st) (by rw [←hr];exact h)
 have hmm:=@run_makeMap Tryz.prog
 clear hP hr hf hc hk hd hpw hbd
 go_enter Tryz.func15,Tryz.ntmps15
 go_wp2_with fail
 refine HOP.out.mono ?_
 rintro e w1 ⟨F1,hf1,hk1,hg1,hres⟩
 unfold OpenRes at hres
 cases hr2:r.2 with
 | error n =>
  rw [hr2] at hres
  subst hres
  have hn0:(n != 0)=true:=by have:=HERR.out n hr2;simpa using this
  have HE:Hid (P (.returned (.tuple #[.pointer none,.int .i64 n])) w1):=Lib.hid (by
   rw [HPO.out]
   exact ⟨F1,hf1,hk1,hg1,by unfold IxRes;rw [hr2]⟩)
  clear hf1 hk1 hg1
  go_wp2
  exact HE.out
 | ok x =>
  rw [hr2] at hres
  obtain ⟨pj,G,rfl,hjf,hGn⟩:=hres
  have hbd:=HBD.out x hr2
  have hjl:=hjf.fs.lt
  have hgl:=hjf.js.lt
  obtain ⟨W1,hW1⟩:∃ W1,W1=(w1.alloc (.map #[] 0)).alloc (.cells #[.pointer (some ⟨pj,0,none⟩),.map (some w1.heap.size)] 114):=⟨_,rfl⟩
  have hb1:Below w1.heap.size w1 W1:=by rw [hW1];exact ((Below.refl _ _).alloc (Nat.le_refl _) _).alloc (by simp) _
  have hz1:W1.heap.size=w1.heap.size+2:=by rw [hW1];simp
  have hix1:IxAt W1 (w1.heap.size+1) pj w1.heap.size [] (fun _=>False):=by
   refine ⟨?_,?_,List.Pairwise.nil,by simp,by omega,fun h=>h,fun h=>h⟩
   ·rw [hW1]
    have:=heap_alloc_new (w1.alloc (.map #[] 0)) (.cells #[.pointer (some ⟨pj,0,none⟩),.map (some w1.heap.size)] 114)
    rwa [World.size_alloc] at this
   ·rw [hW1];exact (World.ownsMap_made w1 Tryz.prog 9 heldR).alloc _
  have HRC:=Lib.hid (jrecords_any (hjf.below hb1).js (by omega) (by omega) (fun l hl=>(hbd.2 l (List.mem_append_left _ hl))) (fun l hl=>(hbd.2 l (List.mem_append_right _ hl))))
  have HJF:=Lib.hid (hjf.below hb1);have HB1:=Lib.hid hb1;have HZ1:=Lib.hid hz1;have HIX1:=Lib.hid hix1;have HJL:=Lib.hid hjl;have HGL:=Lib.hid hgl;have HGN:=Lib.hid hGn
  have HF1:=Lib.hid hf1;have HK1:=Lib.hid hk1;have HG1:=Lib.hid hg1
  clear hjf hb1 hz1 hix1 hjl hgl hGn hf1 hk1 hg1
  go_wp2_with fail
  rw [←hW1]
  clear hW1
  refine HRC.out.mono ?_
  rintro e W2 ⟨v2,us2,rfl,hrw⟩
  obtain ⟨ls,hls⟩:∃ ls,ls=x.2.1 ++ x.2.2:=⟨_,rfl⟩
  rw [←hls] at hrw
  have hb2:=hrw.below
  have hz1:=HZ1.out
  have hz2:=hb2.size
  have hrows:=hrw.rows
  obtain ⟨A,c,rfl,hcl,hcm,-⟩:=(hrows.sub (S':=(· < W2.heap.size)) fun b hb=>hb.2).open_
  have hll:ls.length≤100000:=by rw [hls,List.length_append];exact hbd.1
  have HROWS:Hid (∀ W,Kept (· = w1.heap.size) W2 W→RowsAt (· < W.heap.size) W (.slice A ls.length c) ls):=Lib.hid fun W hk=>hrows.keep fun b hb=>⟨by have:=hk.size;omega,hk.block b hb.2 (by omega)⟩
  have HI0:Hid (OpI W2 (w1.heap.size+1) pj w1.heap.size ls 0 W2):=Lib.hid ⟨⟨[],[],rfl,rfl,(HIX1.out.keep (hb2.block _ (by omega)) (hb2.block _ (by omega)) (fun b hb=>hb.elim)).sub (fun b hb=>hb.elim) ⟨by omega,by omega⟩⟩,Kept.refl _ _⟩
  have HKW:Hid (∀ W',Kept (· = w1.heap.size) w1 W'→Fsy W' p r.1 F1∧Kept F w W'):=Lib.hid fun W' hk=>by
   have hz:=HK1.out.size
   refine ⟨HF1.out.keep fun g hg=>hk.block g (HJL.out g hg) (fun e=>by have:=HJL.out g hg;omega),⟨hk.os.trans HK1.out.os,hk.tape.trans HK1.out.tape,hk.output.trans HK1.out.output,Nat.le_trans hz hk.size,fun g hg hn=>?_⟩⟩
   exact (hk.block g (by omega) (by omega)).trans (HK1.out.block g hg hn)
  have HK2:Hid (∀ W',Kept (· = w1.heap.size) W2 W'→Kept (· = w1.heap.size) w1 W'):=Lib.hid fun W' hk=>(Kept.of_below (HB1.out.trans (hb2.mono (by omega)))).trans' hk
  have HB2:=Lib.hid hb2;have HLS:=Lib.hid hls;have HLL:=Lib.hid hll
  clear hrw hrows hb2 hls HIX1 HRC
  go_wp2
  go_loopw [27] (fun iv W=>∃ k:Nat,k≤ls.length∧iv=.int .i64 k∧Hid (OpI W2 (w1.heap.size+1) pj w1.heap.size ls k W)) (fun iv _=>ls.length - (RowKit.intOf iv).toNat)
  case atStart=>exact ⟨0,by omega,rfl,HI0⟩
  case round =>
   obtain ⟨k,hk,rfl,HI⟩:=hrel
   by_cases hlt:k < ls.length
   ·obtain ⟨es,xs,hrep,hmap,hix⟩:=HI.out.ex
    obtain ⟨A',c',e,_,_,HR⟩:=(HROWS.out wr HI.out.kept).open_
    injection e with eA _ eC
    subst eA eC
    obtain ⟨b,off,Au,cu,rfl,hb,hck,hsk⟩:=HR.out wr (Below.refl _ _) k hlt
    have HREP:=Lib.hid hrep;have HMAP:=Lib.hid hmap;have HIX:=Lib.hid hix
    obtain ⟨L,hL⟩:∃ L,L=ls.getD k []:=⟨_,rfl⟩
    rw [←hL] at hck hsk
    have HL:=Lib.hid hL
    have HRD:=Lib.hid (read_any20 L _ wr hsk)
    clear hrep hmap hix hsk hL HR
    go_wp2_with fail
    refine HRD.out.mono ?_
    rintro e w3 ⟨hb3,s,n,A3,m3,c3,there,ok,rfl,hno,hyes⟩
    have hz3:=hb3.size
    have hK3:Kept (· = w1.heap.size) W2 w3:=HI.out.kept.trans' (Kept.of_below hb3)
    cases hrd:readE L with
    | none =>
     have hok:=hno hrd
     subst hok
     have HE:Hid (∀ o,P (.returned (.tuple #[.pointer none,.int .i64 200])) (w3.alloc o)):=Lib.hid fun o=>by
      rw [HPO.out]
      obtain ⟨g1,g2⟩:=HKW.out _ (HK2.out _ (hK3.alloc o))
      refine ⟨F1,g1,g2,HG1.out,?_⟩
      unfold IxRes
      rw [hr2]
      simp only
      rw [←HLS.out,replay_fail hlt HREP.out (by rw [←HL.out];unfold stepE;rw [hrd])]
      trivial
     clear hno hyes hb3 hK3
     go_wp2
     exact HE.out _
    | some ET =>
     obtain ⟨E,t⟩:=ET
     obtain ⟨rfl,rfl,hent⟩:=hyes E t hrd
     have huri:E.uri.size≤64:=(readE_ok hrd).1.2
     have hent2:=hent
     obtain ⟨A9,c9,ev,hus,-⟩:=hent2
     obtain ⟨rfl,rfl,rfl,rfl,rfl⟩:=agg3_inj ev
     obtain ⟨W4,hW4⟩:∃ W4,W4=w3.alloc (.cells #[.string E.uri,.int .i64 E.ver,.slice A3 E.exs.length c3] 55):=⟨_,rfl⟩
     have hb4:Below w3.heap.size w3 W4:=by rw [hW4];exact (Below.refl _ _).alloc (Nat.le_refl _) _
     have hz4:W4.heap.size=w3.heap.size+1:=by rw [hW4];simp
     have hb34:Below wr.heap.size wr W4:=hb3.trans (hb4.mono hz3)
     have hzk:=HI.out.kept.size
     have hz10:=HZ1.out
     have hz20:=HB2.out.size
     have hbx4:W4.heap[w3.heap.size]? = some (.cells #[.string E.uri,.int .i64 E.ver,.slice A3 E.exs.length c3] 55 (0,0)):=by rw [hW4];exact heap_alloc_new _ _
     have hpl:=HIX.out.lt
     have hix4:IxAt W4.drew (w1.heap.size+1) pj w1.heap.size xs (fun g=>W2.heap.size≤g∧g < W4.heap.size):=by
      have h1:=HIX.out.keep (w':=W4.drew) (hb34.block _ hpl.1) (hb34.block _ hpl.2) (fun b hb=>hb34.block b hb.2)
      exact h1.sub (fun b hb=>⟨hb.1,by omega⟩) ⟨by omega,by omega⟩
     have hent4:EntAt (fun g=>W2.heap.size≤g∧g < W4.heap.size) W4.drew (.agg #[.string E.uri,.int .i64 E.ver,.slice A3 E.exs.length c3]) E:=hent.keep fun g hg=>⟨⟨by omega,by omega⟩,hb4.block g hg.2⟩
     have hxl:xs.length≤100000:=by
      have h1:=replay_le _ _ _ HREP.out
      rw [←HMAP.out,List.length_map,List.length_take] at h1
      simp at h1;omega
     have HK4:Hid (Kept (· = w1.heap.size) W2 W4.drew):=Lib.hid ((hK3.trans' (Kept.of_below hb4)).drew)
     cases there with
     | true =>
      obtain ⟨VV,hVV⟩:∃ VV:Value,VV=.agg #[.string E.uri,.int .i64 E.ver,.slice A3 E.exs.length c3]:=⟨_,rfl⟩
      obtain ⟨w5,hrun,hix5,hk5,hz5⟩:=hix4.put (by omega) ⟨E,VV⟩ (by rw [hVV];exact hent4) (by show E.uri.size≤_;omega)
      have hnx:OpI W2 (w1.heap.size+1) pj w1.heap.size ls (k+1) w5:=by
       refine ⟨⟨withL keyE E es,withL keyX ⟨E,VV⟩ xs,replay_take hlt HREP.out (by rw [←HL.out];unfold stepE;rw [hrd]),by rw [map_withX,HMAP.out],?_⟩,HK4.out.trans' hk5⟩
       have hz6:W4.drew.heap.size=W4.heap.size:=rfl
       exact hix5.sub (fun b hb=>⟨hb.1,by omega⟩) ⟨by omega,by omega⟩
      have HNX:=Lib.hid hnx
      have HRD2:=Lib.hid hrd
      have HIX4:=Lib.hid hix4
      obtain ⟨y0,y1,y2⟩:=box3 (W:=W4.drew) hbx4
      have p1:W4.drew.cell? ⟨w1.heap.size+1,1,none⟩=some (.map (some w1.heap.size)):=by simp [World.cell?,hix4.head]
      clear hno hyes hb3 hK3 hent hent4 hix4 hix5 hk5 hnx hb4 hb34 hbx4 hck
      dsimp only at hrun
      rw [hVV] at hrun
      clear ev hVV hrd
      go_wp2_with fail
      rw [←hW4]
      clear hW4
      go_region
      go_wp2
      go_roundw
      case rel=>exact ⟨k+1,by omega,by go_num,HNX.out⟩
      case measure=>simp [RowKit.intOf];omega
     | false =>
      obtain ⟨w5,hrun,hix5,hk5,hz5⟩:=hix4.del E.uri (by omega) 0
      have hnx:OpI W2 (w1.heap.size+1) pj w1.heap.size ls (k+1) w5:=by
       refine ⟨⟨dropL keyE (keyE E) es,dropL keyX E.uri.data.toList xs,replay_take hlt HREP.out (by rw [←HL.out];unfold stepE;rw [hrd]),by rw [map_dropX,HMAP.out];rfl,?_⟩,HK4.out.trans' hk5⟩
       have hz6:W4.drew.heap.size=W4.heap.size:=rfl
       exact hix5.sub (fun b hb=>⟨hb.1,by omega⟩) ⟨by omega,by omega⟩
      have HNX:=Lib.hid hnx
      obtain ⟨y0,y1,y2⟩:=box3 (W:=W4.drew) hbx4
      have p1:W4.drew.cell? ⟨w1.heap.size+1,1,none⟩=some (.map (some w1.heap.size)):=by simp [World.cell?,hix4.head]
      clear ev hrd
      clear hno hyes hb3 hK3 hent hent4 hix4 hix5 hk5 hnx hb4 hb34 hbx4 hck
      go_wp2_with fail
      rw [←hW4]
      clear hW4
      go_region
      go_wp2
      go_roundw
      case rel=>exact ⟨k+1,by omega,by go_num,HNX.out⟩
      case measure=>simp [RowKit.intOf];omega
   ·have hkl:k=ls.length:=by omega
    subst hkl
    obtain ⟨es,xs,hrep,hmap,hix⟩:=HI.out.ex
    rw [List.take_length] at hrep
    have hkk:=HK2.out wr HI.out.kept
    obtain ⟨g1,g2⟩:=HKW.out wr hkk
    have hzk:=HI.out.kept.size
    have hz10:=HZ1.out
    have hz20:=HB2.out.size
    have hzw:=HK1.out.size
    have HE:Hid (P (.returned (.tuple #[.pointer (some ⟨w1.heap.size+1,0,none⟩),.int .i64 0])) wr):=Lib.hid (by
     rw [HPO.out]
     refine ⟨F1,g1,g2,HG1.out,?_⟩
     unfold IxRes
     rw [hr2]
     simp only
     rw [←HLS.out,hrep]
     refine ⟨w1.heap.size+1,fun k=>G k∨k=w1.heap.size+1∨k=w1.heap.size,fun g=>W2.heap.size≤g∧g < wr.heap.size,rfl,⟨pj,w1.heap.size,xs,G,⟨g1,?_,HJF.out.apart⟩,hix,hmap,fun k=>Iff.rfl,fun k hk=>⟨hk.2,fun h=>?_,fun h=>?_⟩,fun h=>?_,fun h=>?_,fun h=>?_,fun h=>?_⟩,fun k hk=>?_⟩
     ·have hjs:JS w1 pj p x.1 x.2.1 x.2.2 G:=HJF.out.js.block fun k hk=>(HB1.out.block k (HGL.out k hk)).symm
      exact hjs.block fun k hk=>hkk.block k (HGL.out k hk) (fun e=>by have:=HGL.out k hk;omega)
     ·have:=HJL.out k h;omega
     ·rcases h with h | h | h
      ·have:=HGL.out k h;omega
      ·omega
      ·omega
     ·have:=HJL.out _ h;omega
     ·have:=HJL.out _ h;omega
     ·have:=HGL.out _ h;omega
     ·have:=HGL.out _ h;omega
     ·rcases hk with (h | h | h) | h
      ·exact HGN.out k h
      ·omega
      ·omega
      ·omega)
    clear hrep hmap hix hkk g1 g2
    go_wp2
    exact HE.out
end Go.Proofs.YtaalbcfpacpgfaaGreat
