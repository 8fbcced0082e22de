/- Index: Find, Log, Sync. -/
import Derived.Test.YtaalbcfpacpgfaaGreatZaI8
set_option linter.unusedVariables false
set_option linter.unusedSimpArgs false
namespace Go.Proofs.YtaalbcfpacpgfaaGreat
open Go.RowKit Go.Lib Go.Vfs Go.Par Go.Typ Go.Shelf Go.Ix
def zeroE:En:=⟨⟨#[]⟩,0,[]⟩
def foundE (es:List En) (s:List UInt8):En:=match findL keyE s es with | some e=>e | none=>zeroE
def FindPostX (es:List En) (s:List UInt8) (w:World) (e:Ending) (w':World):Prop :=
 ∃ A c,e=.returned (.tuple #[enV (foundE es s) A c,.bool (findL keyE s es).isSome])∧ExsAt (fun g=>w.heap.size≤g∧g < w'.heap.size) w' (.slice A (foundE es s).exs.length c) (foundE es s).exs∧Below w.heap.size w w'
def FindPostC (es:List En) (s:List UInt8) (w:World) (e:Ending) (w':World):Prop :=
 ∃ A c,e=.returned (.tuple #[enV (foundE es s) A c,.bool (findL keyE s es).isSome])∧ExsC (fun g=>w.heap.size≤g∧g < w'.heap.size) w' (.slice A (foundE es s).exs.length c) (foundE es s).exs∧Below w.heap.size w w'
theorem valX_at {w:World} {px pj mb:Nat} {xs:List EnR} {S:Nat→Prop} (h:IxAt w px pj mb xs S) (s:List UInt8):EntAt S w (valX xs s) (foundE (xs.map (·.e)) s):=by
 unfold foundE valX
 rw [map_findX]
 cases hf:findL keyX s xs with
 | none=>exact ⟨none,0,rfl,by decide,ExsAt.nil _ _ _ _ (Nat.zero_le _)⟩
 | some x=>exact h.ents x (findL_some hf).1
theorem foundE_ok {es:List En} (h:Ix.Good es) (s:List UInt8):(∀ y∈(foundE es s).exs,RowOk y.ty)∧(foundE es s).exs.length≤1000:=by
 unfold foundE
 cases hf:findL keyE s es with
 | none=>exact ⟨fun y hy=>(by cases hy),Nat.zero_le _⟩
 | some x =>
  have hrt:=okE_exs (h.ok x (findL_some hf).1)
  exact ⟨fun y hy=>RowOk.of_parts (by have:=(rightT_iff.1 (right_each hrt y hy).2.1).1;omega),rightX_len hrt⟩
set_option maxRecDepth 20000 in
set_option maxHeartbeats 2000000 in
theorem ixfindCl_any (w:World) (px pj mb:Nat) (xs:List EnR) (S:Nat→Prop) (h:IxAt w px pj mb xs S) (hS:∀ k,S k→k < w.heap.size) (hok:Ix.Good (xs.map (·.e))) (s:ByteArray) (hs:s.size≤9223372036854775807) :
  Calls Tryz.prog 22 #[.pointer (some ⟨px,0,none⟩),.string s] w (FindPostC (xs.map (·.e)) s.data.toList w):=by
 obtain ⟨E,hE⟩:∃ E,E=foundE (xs.map (·.e)) s.data.toList:=⟨_,rfl⟩
 obtain ⟨P,hP⟩:∃ P,P=FindPostC (xs.map (·.e)) s.data.toList w:=⟨_,rfl⟩
 have HPO:=Lib.hid hP
 rw [←hP]
 clear hP
 have hlt:=h.lt
 have hva:=valX_at h s.data.toList
 rw [←hE] at hva
 obtain ⟨A,c,hv,hus,hex⟩:=hva
 unfold enV at hv
 have hb0:Below w.heap.size w (w.alloc (.cells #[.string ⟨#[]⟩,.int .i64 0,.slice none 0 0] 55)):=(Below.refl _ _).alloc (Nat.le_refl _) _
 have hix0:IxAt (w.alloc (.cells #[.string ⟨#[]⟩,.int .i64 0,.slice none 0 0] 55)) px pj mb xs S:=h.keep (hb0.block _ hlt.1) (hb0.block _ hlt.2) (fun b hb=>hb0.block b (hS b hb))
 have hlook:=hix0.look2 s hs
 have hff:=map_findX s.data.toList xs
 obtain ⟨ok,hok2⟩:∃ ok,ok=(findL keyX s.data.toList xs).isSome:=⟨_,rfl⟩
 rw [hv,←hok2] at hlook
 have HOK2:Hid ((findL keyE s.data.toList (xs.map (·.e))).isSome=ok):=Lib.hid (by rw [hff,Option.isSome_map,hok2])
 have p1:(w.alloc (.cells #[.string ⟨#[]⟩,.int .i64 0,.slice none 0 0] 55)).cell? ⟨px,1,none⟩=some (.map (some mb)):=by simp [World.cell?,hix0.head]
 obtain ⟨W2,hW2⟩:∃ W2,W2=(w.alloc (.cells #[.string ⟨#[]⟩,.int .i64 0,.slice none 0 0] 55)).alloc (.cells #[.string E.uri,.int .i64 E.ver,.slice A E.exs.length c] 55):=⟨_,rfl⟩
 have hb2:Below w.heap.size w W2:=by rw [hW2];exact hb0.alloc (by simp) _
 have hz2:W2.heap.size=w.heap.size+2:=by rw [hW2];simp
 have hbx0:W2.heap[w.heap.size]? = some (.cells #[.string ⟨#[]⟩,.int .i64 0,.slice none 0 0] 55 (0,0)):=by
  rw [hW2,Below.heap_alloc _ _ _ (by simp)];exact heap_alloc_new _ _
 have hbx1:W2.heap[w.heap.size+1]? = some (.cells #[.string E.uri,.int .i64 E.ver,.slice A E.exs.length c] 55 (0,0)):=by
  rw [hW2]
  have:=heap_alloc_new (w.alloc (.cells #[.string ⟨#[]⟩,.int .i64 0,.slice none 0 0] 55)) (.cells #[.string E.uri,.int .i64 E.ver,.slice A E.exs.length c] 55)
  simpa using this
 have hfo:=foundE_ok hok s.data.toList
 rw [←hE] at hfo
 have HCL:=Lib.hid (ixcloneCl_any E hfo.1 (.agg #[.string E.uri,.int .i64 E.ver,.slice A E.exs.length c]) W2 ⟨A,c,rfl,hus,hex.keep fun g hg=>⟨by have:=hS g hg;omega,hb2.block g (hS g hg)⟩⟩ (by have:=hfo.2;omega))
 have HB2:=Lib.hid hb2;have HZ2:=Lib.hid hz2;have HBX0:=Lib.hid hbx0;have HE:=Lib.hid hE
 have y:=box3 hbx1
 rw [hW2] at y
 obtain ⟨y0,y1,y2⟩:=y
 clear h hS hok hlt hv hex hb0 hix0 hff hok2 hb2 hz2 hbx0 hbx1 hfo hE
 go_enter Tryz.func22,Tryz.ntmps22
 go_wp2_with fail
 rw [←hW2]
 clear hW2 y0 y1 y2 hlook p1
 refine HCL.out.mono ?_
 rintro e w3 ⟨A3,c3,rfl,hx3,hb3⟩
 have hz3:=hb3.size
 have hbx3:=(hb3.block _ (by have:=HZ2.out;omega)).trans HBX0.out
 obtain ⟨Wf,hWf,hbf,hblf,hkf⟩:=box_back (.string E.uri) (.int .i64 E.ver) (.slice A3 E.exs.length c3) hbx3 (HB2.out.trans (hb3.mono (by have:=HZ2.out;omega)))
 obtain ⟨y0,y1,y2⟩:=box3 hbx3
 obtain ⟨q0,q1,q2⟩:=box3_frozen hbx3
 obtain ⟨f0,f1,f2⟩:=box3 hbf
 have HF:Hid (P (.returned (.tuple #[.agg #[.string E.uri,.int .i64 E.ver,.slice A3 E.exs.length c3],.bool ok])) Wf):=Lib.hid (by
  rw [HPO.out]
  refine ⟨A3,c3,?_,?_,hblf⟩
  ·rw [HOK2.out,←HE.out];rfl
  ·rw [←HE.out]
   exact ExsC.keep hx3 fun g hg=>⟨by have:=HZ2.out;have:=hkf.size;omega,hkf.block g hg.2 (by have:=HZ2.out;omega)⟩)
 clear hx3 hb3 hbx3 hbf hblf hkf HCL
 unfold enV
 go_wp2
 rw [←hWf]
 refine bodyPost_ret (v:=.tuple #[.agg #[.string E.uri,.int .i64 E.ver,.slice A3 E.exs.length c3],.bool ok]) (by simp [results,Tryz.results22,go_sem,f0,f1,f2]) rfl ?_
 exact HF.out
theorem ixfind_any (w:World) (px pj mb:Nat) (xs:List EnR) (S:Nat→Prop) (h:IxAt w px pj mb xs S) (hS:∀ k,S k→k < w.heap.size) (hok:Ix.Good (xs.map (·.e))) (s:ByteArray) (hs:s.size≤9223372036854775807) :
  Calls Tryz.prog 22 #[.pointer (some ⟨px,0,none⟩),.string s] w (FindPostX (xs.map (·.e)) s.data.toList w) :=
 (ixfindCl_any w px pj mb xs S h hS hok s hs).mono (by rintro e w' ⟨A,c,rfl,h,hb⟩;exact ⟨A,c,rfl,ExsC.at_ h,hb⟩)
end Go.Proofs.YtaalbcfpacpgfaaGreat
