/- Texts L4 L5 of the proof, joined. -/
import Derived.Test.YtaalbcfpacpgfaaGreatZaL3
set_option linter.unusedVariables false
set_option linter.unusedSimpArgs false
namespace Go.Proofs.YtaalbcfpacpgfaaGreat
open Go.RowKit Go.Lib Go.Vfs Go.Par Go.Typ
set_option maxRecDepth 20000 in
set_option maxHeartbeats 1000000 in
theorem words_any (w:World):Calls Tryz.prog 198 #[] w fun e w'=>e=.returned (.agg #[.string ⟨#[108,101,116]⟩,.string ⟨#[114,101,99]⟩,.string ⟨#[105,110]⟩,.string ⟨#[102,117,110]⟩,.string ⟨#[105,102]⟩,.string ⟨#[116,104,101,110]⟩,.string ⟨#[101,108,115,101]⟩,.string ⟨#[109,97,116,99,104]⟩,.string ⟨#[119,105,116,104]⟩,.string ⟨#[116,121,112,101]⟩,.string ⟨#[111,102]⟩,.string ⟨#[116,114,117,101]⟩,.string ⟨#[102,97,108,115,101]⟩])∧Below w.heap.size w w':=by
 obtain ⟨W1,hW1⟩:∃ W1,W1=w.alloc (.cells #[.string ⟨#[108,101,116]⟩,.string ⟨#[114,101,99]⟩,.string ⟨#[105,110]⟩,.string ⟨#[102,117,110]⟩,.string ⟨#[105,102]⟩,.string ⟨#[116,104,101,110]⟩,.string ⟨#[101,108,115,101]⟩,.string ⟨#[109,97,116,99,104]⟩,.string ⟨#[119,105,116,104]⟩,.string ⟨#[116,121,112,101]⟩,.string ⟨#[111,102]⟩,.string ⟨#[116,114,117,101]⟩,.string ⟨#[102,97,108,115,101]⟩] 243):=⟨_,rfl⟩
 have hb1:Below w.heap.size w W1:=by rw [hW1];exact (Below.refl _ _).alloc (Nat.le_refl _) _
 have hbx:W1.heap[w.heap.size]? = some (.cells #[.string ⟨#[108,101,116]⟩,.string ⟨#[114,101,99]⟩,.string ⟨#[105,110]⟩,.string ⟨#[102,117,110]⟩,.string ⟨#[105,102]⟩,.string ⟨#[116,104,101,110]⟩,.string ⟨#[101,108,115,101]⟩,.string ⟨#[109,97,116,99,104]⟩,.string ⟨#[119,105,116,104]⟩,.string ⟨#[116,121,112,101]⟩,.string ⟨#[111,102]⟩,.string ⟨#[116,114,117,101]⟩,.string ⟨#[102,97,108,115,101]⟩] 243 (0,0)):=by rw [hW1];exact heap_alloc_new _ _
 have f:∀ j v,(#[.string ⟨#[108,101,116]⟩,.string ⟨#[114,101,99]⟩,.string ⟨#[105,110]⟩,.string ⟨#[102,117,110]⟩,.string ⟨#[105,102]⟩,.string ⟨#[116,104,101,110]⟩,.string ⟨#[101,108,115,101]⟩,.string ⟨#[109,97,116,99,104]⟩,.string ⟨#[119,105,116,104]⟩,.string ⟨#[116,121,112,101]⟩,.string ⟨#[111,102]⟩,.string ⟨#[116,114,117,101]⟩,.string ⟨#[102,97,108,115,101]⟩]:Array Value)[j]? = some v→W1.cell? ⟨w.heap.size,j,none⟩=some v:=fun j v h=>by
  rw [←h];simp [World.cell?,hbx]
 go_enter Tryz.func198,Tryz.ntmps198
 go_wp2
 rw [←hW1]
 have f0:=f 0 _ rfl
 have f1:=f 1 _ rfl
 have f2:=f 2 _ rfl
 have f3:=f 3 _ rfl
 have f4:=f 4 _ rfl
 have f5:=f 5 _ rfl
 have f6:=f 6 _ rfl
 have f7:=f 7 _ rfl
 have f8:=f 8 _ rfl
 have f9:=f 9 _ rfl
 have f10:=f 10 _ rfl
 have f11:=f 11 _ rfl
 have f12:=f 12 _ rfl
 refine bodyPost_ret (v:=.agg #[.string ⟨#[108,101,116]⟩,.string ⟨#[114,101,99]⟩,.string ⟨#[105,110]⟩,.string ⟨#[102,117,110]⟩,.string ⟨#[105,102]⟩,.string ⟨#[116,104,101,110]⟩,.string ⟨#[101,108,115,101]⟩,.string ⟨#[109,97,116,99,104]⟩,.string ⟨#[119,105,116,104]⟩,.string ⟨#[116,121,112,101]⟩,.string ⟨#[111,102]⟩,.string ⟨#[116,114,117,101]⟩,.string ⟨#[102,97,108,115,101]⟩]) (by simp [results,Tryz.results198,go_sem,f0,f1,f2,f3,f4,f5,f6,f7,f8,f9,f10,f11,f12]) rfl ?_
 exact ⟨rfl,hb1⟩
set_option maxRecDepth 20000 in
set_option maxHeartbeats 1000000 in
theorem signs_any (w:World):Calls Tryz.prog 199 #[] w fun e w'=>e=.returned (.agg #[.string ⟨#[45,62]⟩,.string ⟨#[58,58]⟩,.string ⟨#[59,59]⟩,.string ⟨#[40]⟩,.string ⟨#[41]⟩,.string ⟨#[44]⟩,.string ⟨#[124]⟩,.string ⟨#[61]⟩,.string ⟨#[60]⟩,.string ⟨#[43]⟩,.string ⟨#[45]⟩,.string ⟨#[42]⟩,.string ⟨#[95]⟩])∧Below w.heap.size w w':=by
 obtain ⟨W1,hW1⟩:∃ W1,W1=w.alloc (.cells #[.string ⟨#[45,62]⟩,.string ⟨#[58,58]⟩,.string ⟨#[59,59]⟩,.string ⟨#[40]⟩,.string ⟨#[41]⟩,.string ⟨#[44]⟩,.string ⟨#[124]⟩,.string ⟨#[61]⟩,.string ⟨#[60]⟩,.string ⟨#[43]⟩,.string ⟨#[45]⟩,.string ⟨#[42]⟩,.string ⟨#[95]⟩] 243):=⟨_,rfl⟩
 have hb1:Below w.heap.size w W1:=by rw [hW1];exact (Below.refl _ _).alloc (Nat.le_refl _) _
 have hbx:W1.heap[w.heap.size]? = some (.cells #[.string ⟨#[45,62]⟩,.string ⟨#[58,58]⟩,.string ⟨#[59,59]⟩,.string ⟨#[40]⟩,.string ⟨#[41]⟩,.string ⟨#[44]⟩,.string ⟨#[124]⟩,.string ⟨#[61]⟩,.string ⟨#[60]⟩,.string ⟨#[43]⟩,.string ⟨#[45]⟩,.string ⟨#[42]⟩,.string ⟨#[95]⟩] 243 (0,0)):=by rw [hW1];exact heap_alloc_new _ _
 have f:∀ j v,(#[.string ⟨#[45,62]⟩,.string ⟨#[58,58]⟩,.string ⟨#[59,59]⟩,.string ⟨#[40]⟩,.string ⟨#[41]⟩,.string ⟨#[44]⟩,.string ⟨#[124]⟩,.string ⟨#[61]⟩,.string ⟨#[60]⟩,.string ⟨#[43]⟩,.string ⟨#[45]⟩,.string ⟨#[42]⟩,.string ⟨#[95]⟩]:Array Value)[j]? = some v→W1.cell? ⟨w.heap.size,j,none⟩=some v:=fun j v h=>by
  rw [←h];simp [World.cell?,hbx]
 go_enter Tryz.func199,Tryz.ntmps199
 go_wp2
 rw [←hW1]
 have f0:=f 0 _ rfl
 have f1:=f 1 _ rfl
 have f2:=f 2 _ rfl
 have f3:=f 3 _ rfl
 have f4:=f 4 _ rfl
 have f5:=f 5 _ rfl
 have f6:=f 6 _ rfl
 have f7:=f 7 _ rfl
 have f8:=f 8 _ rfl
 have f9:=f 9 _ rfl
 have f10:=f 10 _ rfl
 have f11:=f 11 _ rfl
 have f12:=f 12 _ rfl
 refine bodyPost_ret (v:=.agg #[.string ⟨#[45,62]⟩,.string ⟨#[58,58]⟩,.string ⟨#[59,59]⟩,.string ⟨#[40]⟩,.string ⟨#[41]⟩,.string ⟨#[44]⟩,.string ⟨#[124]⟩,.string ⟨#[61]⟩,.string ⟨#[60]⟩,.string ⟨#[43]⟩,.string ⟨#[45]⟩,.string ⟨#[42]⟩,.string ⟨#[95]⟩]) (by simp [results,Tryz.results199,go_sem,f0,f1,f2,f3,f4,f5,f6,f7,f8,f9,f10,f11,f12]) rfl ?_
 exact ⟨rfl,hb1⟩
def OneOk (s:ByteArray) (i:Nat) (k j:Nat):Prop :=
 ((k=0∧j=0)∨(0 < k∧k≤6∧i < j∧j≤s.size))∧(k=1→nameOk (s.extract i j).data.toList=true)∧(i=0→nameOk s.data.toList=true→k=1∧j=s.size)
def Run (s:ByteArray) (i j:Nat):Prop:=i < j∧j≤s.size∧(∀ m,i≤m→m < j→nmN true (byteS s m)=true)∧(j < s.size→nmN true (byteS s j)=false)
theorem byteS_ext {s:ByteArray} {i j m:Nat} (hj:j≤s.size) (hm:m < j - i):byteS (s.extract i j) m=byteS s (i+m):=by
 unfold byteS
 rw [ext_list,List.getD_eq_getElem?_getD,List.getElem?_take,if_pos hm,List.getElem?_drop,←List.getD_eq_getElem?_getD]
theorem size_ext {s:ByteArray} {i j:Nat} (hj:j≤s.size):(s.extract i j).size=j - i:=by
 rw [ByteArray.size_extract];omega
theorem nmN_first {x:Nat} (h:smallN x=true∨greatN x=true∨x=95):nmN true x=true:=by
 unfold nmN
 rcases h with h|h|h
 ·simp [h]
 ·simp [h]
 ·subst h;rfl
theorem run_name {s:ByteArray} {i j:Nat} (h:Run s i j):nameOk (s.extract i j).data.toList=((smallN (byteS s i) || decide (byteS s i=95)) && !((s.extract i j).data.toList∈keyWords:Bool)):=by
 obtain ⟨h1,h2,h3,h4⟩:=h
 have hz:=size_ext (s:=s) (i:=i) h2
 rw [nameOk_get (by omega),byteS_ext h2 (by omega),Nat.add_zero]
 have ha:(s.extract i j).data.toList.all (fun b=>nmN true b.toNat)=true:=all_byteS.2 fun m hm=>by
  rw [byteS_ext h2 (by omega)];exact h3 _ (by omega) (by omega)
 rw [ha,Bool.and_true]
theorem run_all {s:ByteArray} {j:Nat} (h:Run s 0 j) (hn:nameOk s.data.toList=true):j=s.size∧s.extract 0 j=s:=by
 obtain ⟨h1,h2,h3,h4⟩:=h
 rw [nameOk_get (by omega)] at hn
 simp only [Bool.and_eq_true] at hn
 have ha:=(all_byteS (p:=nmN true)).1 hn.1.2
 have hj:j=s.size:=by
  by_cases hlt:j < s.size
  ·have:=ha j hlt
   rw [h4 hlt] at this;cases this
  ·omega
 subst hj
 exact ⟨rfl,extract_all s⟩
theorem ok_other {s:ByteArray} {i j k:Nat} (hk:k≤6) (hk0:1 < k) (h1:i < j) (h2:j≤s.size) (h:i=0→nameOk s.data.toList=false):OneOk s i k j :=
 ⟨.inr ⟨by omega,hk,h1,h2⟩,fun e=>by omega,fun e hn=>by rw [h e] at hn;cases hn⟩
theorem ok_none {s:ByteArray} {i:Nat} (h:i=0→nameOk s.data.toList=false):OneOk s i 0 0 :=
 ⟨.inl ⟨rfl,rfl⟩,(fun e=>by cases e),fun e hn=>by rw [h e] at hn;cases hn⟩
theorem ok_key {s:ByteArray} {i j k:Nat} (hk:k≤6) (hk0:1 < k) (h:Run s i j) (hw:(s.extract i j).data.toList∈keyWords):OneOk s i k j :=
 ok_other hk hk0 h.1 h.2.1 fun e=>by
  subst e
  cases hn:nameOk s.data.toList with
  | false=>rfl
  | true =>
   have h1:=(run_all h hn).2
   rw [h1] at hw
   have h2:=h.1
   rw [nameOk_get (by have:=h.2.1;omega)] at hn
   simp [hw] at hn
theorem ok_great {s:ByteArray} {i j:Nat} (h:Run s i j) (hg:greatN (byteS s i)=true):OneOk s i 2 j :=
 ok_other (by decide) (by decide) h.1 h.2.1 fun e=>by
  subst e
  refine name_not (by have:=h.1;have:=h.2.1;omega) fun h'=>?_
  unfold greatN at hg
  have hg:=of_decide_eq_true hg
  rcases h' with h'|h'
  ·unfold smallN at h'
   have h':=of_decide_eq_true h'
   omega
  ·omega
theorem ok_name {s:ByteArray} {i j:Nat} (h:Run s i j) (hf:smallN (byteS s i)=true∨byteS s i=95) (hw:(s.extract i j).data.toList ∉ keyWords):OneOk s i 1 j:=by
 refine ⟨.inr ⟨by decide,by decide,h.1,h.2.1⟩,fun _=>?_,fun e hn=>?_⟩
 ·rw [run_name h,decide_eq_false hw]
  rcases hf with h'|h' <;> simp [h']
 ·subst e
  exact ⟨rfl,(run_all h hn).1⟩
theorem ok_first {s:ByteArray} {i:Nat} (hi:i < s.size) (h:smallN (byteS s i)=false) (h':¬ byteS s i=95):i=0→nameOk s.data.toList=false:=fun e=>by
 subst e
 exact name_not (by omega) fun h2=>by
  rcases h2 with h2|h2
  ·rw [h] at h2;cases h2
  ·exact h' h2
def wordsA:List ByteArray:=[⟨#[108,101,116]⟩,⟨#[114,101,99]⟩,⟨#[105,110]⟩,⟨#[102,117,110]⟩,⟨#[105,102]⟩,⟨#[116,104,101,110]⟩,⟨#[101,108,115,101]⟩,⟨#[109,97,116,99,104]⟩,⟨#[119,105,116,104]⟩,⟨#[116,121,112,101]⟩,⟨#[111,102]⟩,⟨#[116,114,117,101]⟩,⟨#[102,97,108,115,101]⟩]
def signsA:List ByteArray:=[⟨#[45,62]⟩,⟨#[58,58]⟩,⟨#[59,59]⟩,⟨#[40]⟩,⟨#[41]⟩,⟨#[44]⟩,⟨#[124]⟩,⟨#[61]⟩,⟨#[60]⟩,⟨#[43]⟩,⟨#[45]⟩,⟨#[42]⟩,⟨#[95]⟩]
theorem cells13 {W:World} {b:Nat} {t:TypeId} {l:List ByteArray} (h:W.heap[b]? = some (.cells (l.map Value.string).toArray t (0,0))) {k:Nat} (hk:k < l.length) :
  W.cell? ⟨b,k,none⟩=some (.string (l.getD k ⟨#[]⟩)):=by
 simp [World.cell?,h,List.getD_eq_getElem?_getD,hk]
theorem keyWords_eq:keyWords=[95] :: wordsA.map (·.data.toList):=rfl
theorem word_mem {k:Nat} (hk:k < 13):(wordsA.getD k ⟨#[]⟩).data.toList∈keyWords:=by
 rw [keyWords_eq,List.getD_eq_getElem?_getD,List.getElem?_eq_getElem (show k < wordsA.length from hk),Option.getD_some]
 exact List.mem_cons_of_mem _ (List.mem_map.2 ⟨_,List.getElem_mem _,rfl⟩)
theorem word_none {w:ByteArray} (h0:¬ w=⟨#[95]⟩) (h:∀ k,k < 13→¬ wordsA.getD k ⟨#[]⟩=w):w.data.toList ∉ keyWords:=by
 rw [keyWords_eq]
 intro hm
 rcases List.mem_cons.1 hm with e|hm
 ·exact h0 (ByteArray.ext (Array.toList_inj.mp e))
 ·obtain ⟨x,hx,e⟩:=List.mem_map.1 hm
  obtain ⟨k,hk,rfl⟩:=List.getElem_of_mem hx
  refine h k hk ?_
  rw [List.getD_eq_getElem?_getD,List.getElem?_eq_getElem hk,Option.getD_some]
  exact ByteArray.ext (Array.toList_inj.mp e)
theorem sign_size:∀ k,k < 13→0 < (signsA.getD k ⟨#[]⟩).size∧(signsA.getD k ⟨#[]⟩).size≤2:=by decide
end Go.Proofs.YtaalbcfpacpgfaaGreat
