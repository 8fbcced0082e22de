import Derived.Test.YtpdelgjfamelfaaV5
namespace Go.Proofs.Ytpdelgjfamelfaa
open Go.RowKit Go.Lib Go.Vfs Go.Par
set_option linter.unusedVariables false

/-- the files with bytes put behind one. -/
def appF (s L : List UInt8) (fs : List File) : List File := withL File.name (match findL File.name s fs with | some f => ⟨s, f.data ++ L, f.safe⟩ | none => ⟨s, L, 0⟩) fs

theorem RowsAt.sub {S S' : Nat → Prop} {w : World} {v : Value} {ls : List (List UInt8)} (h : RowsAt S w v ls) (hS : ∀ b, S b → S' b) : RowsAt S' w v ls := h.keep fun b hb => ⟨hS b hb, rfl⟩
theorem FSAt.drewN {w : World} {p : Nat} {pow : Int} {xs : List FileR} {mb : Nat} (h : FSAt w p pow xs mb) (n : Nat) : FSAt (w.drewN n) p pow xs mb := h.block fun _ _ => rfl

/-- what a closure of a change leaves. -/
def DoPost (w : World) (p : Nat) (pow : Int) (xs : List FileR) (mb : Nat) (fs : List File) (w' : World) : Prop :=
  ∃ xs', xs'.map (·.f) = fs ∧ FSAt w' p pow xs' mb ∧ Kept (OwnF p mb xs) w w' ∧ Grows w (OwnF p mb xs) (OwnF p mb xs')

theorem append1_some {w w' : World} {p : Nat} {pow : Int} {xs : List FileR} {mb : Nat} (h : FSAt w p pow xs mb) {s L : List UInt8} {x : FileR} (hf : findL keyR s xs = some x) {v' : Value}
    (hF : FileAt w' (x.set (x.f.data ++ L) v')) (hn : v'.ownBlock ≠ some x.q) (hk : Kept (· ∈ blocksR x) w w') (hg : ∀ g, v'.ownBlock = some g → x.v.ownBlock = some g ∨ w.heap.size ≤ g) : DoPost w p pow xs mb (appF s L (xs.map (·.f))) w' := by
  obtain ⟨hx, hkx⟩ := findL_some hf
  obtain ⟨h1, h2⟩ := h.repl (x' := x.set (x.f.data ++ L) v') hx rfl rfl hF hn hk hg
  refine ⟨_, ?_, h1, hk.mono (fun k _ hb => .inr (.inr ⟨x, hx, hb⟩)), h2⟩
  rw [map_withL (key := keyR) (key' := File.name) FileR.f (fun _ => rfl)]
  unfold appF
  rw [map_findL (key := keyR) (key' := File.name) FileR.f (fun _ => rfl), hf]
  simp only [Option.map_some]
  have : x.f.name = s := hkx
  rw [← this]
  rfl

theorem dropL_putL {α : Type} {key : α → List UInt8} (y : α) : ∀ l : List α, dropL key (key y) (putL key y l) = dropL key (key y) l
  | [] => by simp [putL, dropL]
  | z :: l => by
    unfold putL
    split
    · simp [dropL, List.filter_cons]
    · have ih := dropL_putL (key := key) y l
      unfold dropL at ih ⊢
      rw [List.filter_cons, List.filter_cons, ih]
theorem dropL_dropL {α : Type} {key : α → List UInt8} (s : List UInt8) (l : List α) : dropL key s (dropL key s l) = dropL key s l := by simp [dropL, List.filter_filter]
theorem withL_withL {α : Type} {key : α → List UInt8} (x y : α) (h : key x = key y) (l : List α) : withL key x (withL key y l) = withL key x l := by
  unfold withL
  rw [h, dropL_putL, dropL_dropL]

/-- a new file, empty, in the map. -/
theorem FSAt.fresh {w W w3 : World} {p : Nat} {pow : Int} {xs : List FileR} {mb n : Nat} (h : FSAt w p pow xs mb) (s : List UInt8) (hb : Below w.heap.size w W) (hq : W.heap[w.heap.size]? = some (.cells #[.slice none 0 0, .int .i64 0] 89 (0, 0)))
    (hmap : w3.ownsMap Try.prog 9 ptrElem mb n ((dat xs).put (.string s) (.lit (.int .i64 w.heap.size)))) (hg : W.grownBy w3 (some mb)) :
    FSAt w3 p pow (withL keyR ⟨⟨s, [], 0⟩, w.heap.size, .slice none 0 0⟩ xs) mb ∧ Kept (OwnF p mb xs) w w3 ∧ Grows w (OwnF p mb xs) (OwnF p mb (withL keyR ⟨⟨s, [], 0⟩, w.heap.size, .slice none 0 0⟩ xs)) := by
  have hpl := lt_of_block h.head
  have hml := h.map.lt
  have hWl : w.heap.size < W.heap.size := lt_of_block hq
  have hk3 : ∀ k, k < w.heap.size → k ≠ mb → w3.heap[k]? = w.heap[k]? := fun k hk hne => (hg.block k (Nat.lt_of_lt_of_le hk hb.size) (fun e => hne (by cases e; rfl))).trans (hb.block k hk)
  have hbl : ∀ k ∈ blocksR ⟨⟨s, [], 0⟩, w.heap.size, .slice none 0 0⟩, k = w.heap.size := fun k hk => by simpa [blocksR, Value.ownBlock] using hk
  refine ⟨h.put _ ⟨?_, ⟨by simp [byteCells], .inl ⟨rfl, rfl⟩⟩, by simp⟩ (by simp [Value.ownBlock]) (n := n) ?_ (hk3 p hpl h.pm) (fun y hy _ k hk => hk3 k ((h.files y hy).lt k hk) (fun e => (h.pf y hy).2.1 (e ▸ hk))) ?_, ?_, own_put ?_⟩
  · show w3.heap[w.heap.size]? = _
    rw [hg.block _ hWl (fun e => by cases e; omega)]
    exact hq
  · rw [← dat_put]; exact hmap
  · intro k hk
    have := hbl k hk
    subst this
    exact ⟨by omega, by omega, fun y hy _ hky => by have := (h.files y hy).lt _ hky; omega⟩
  · exact (Kept.of_below hb).grown hg (fun k e => by cases e; exact .inl (.inr (.inl rfl)))
  · intro k hk
    right
    have := hbl k hk
    omega
theorem append1_none {w w3 w' : World} {p : Nat} {pow : Int} {xs : List FileR} {mb : Nat} {s L : List UInt8} (hf : findL keyR s xs = none)
    (h3 : FSAt w3 p pow (withL keyR ⟨⟨s, [], 0⟩, w.heap.size, .slice none 0 0⟩ xs) mb) (k3 : Kept (OwnF p mb xs) w w3) (g3 : Grows w (OwnF p mb xs) (OwnF p mb (withL keyR ⟨⟨s, [], 0⟩, w.heap.size, .slice none 0 0⟩ xs))) {v' : Value}
    (hF : FileAt w' ⟨⟨s, L, 0⟩, w.heap.size, v'⟩) (hn : v'.ownBlock ≠ some w.heap.size) (hk : Kept (· ∈ blocksR ⟨⟨s, [], 0⟩, w.heap.size, .slice none 0 0⟩) w3 w') (hg : ∀ g, v'.ownBlock = some g → w3.heap.size ≤ g) : DoPost w p pow xs mb (appF s L (xs.map (·.f))) w' := by
  have hx : (⟨⟨s, [], 0⟩, w.heap.size, .slice none 0 0⟩ : FileR) ∈ withL keyR ⟨⟨s, [], 0⟩, w.heap.size, .slice none 0 0⟩ xs := mem_withL.2 (.inl rfl)
  obtain ⟨h1, h2⟩ := h3.repl (x' := ⟨⟨s, L, 0⟩, w.heap.size, v'⟩) hx rfl rfl hF hn hk (fun g e => .inr (hg g e))
  refine ⟨_, ?_, h1, k3.trans (hk.mono (fun k _ hb => ?_)) g3, Grows.trans g3 h2 k3.size⟩
  · rw [withL_withL (key := keyR) ⟨⟨s, L, 0⟩, w.heap.size, v'⟩ ⟨⟨s, [], 0⟩, w.heap.size, .slice none 0 0⟩ rfl, map_withL (key := keyR) (key' := File.name) FileR.f (fun _ => rfl)]
    unfold appF
    rw [map_findL (key := keyR) (key' := File.name) FileR.f (fun _ => rfl), hf]
    rfl
  · exact .inr (.inr ⟨_, hx, hb⟩)

set_option maxRecDepth 20000 in
set_option maxHeartbeats 1000000 in
theorem append1_any (w : World) (p : Nat) (pow : Int) (xs : List FileR) (mb : Nat) (h : FSAt w p pow xs mb) (bf bn bp : Nat) (s : ByteArray) (hs : s.size ≤ 9223372036854775807) (v : Value) (ls : List (List UInt8))
    (hbf : w.cell? ⟨bf, 0, none⟩ = some (.pointer (some ⟨p, 0, none⟩))) (hbn : w.cell? ⟨bn, 0, none⟩ = some (.string s)) (hbp : w.cell? ⟨bp, 0, none⟩ = some v)
    (hbpF : ¬ OwnF p mb xs bp) (hp : RowsAt (Out w (OwnF p mb xs)) w v ls) (hlen : ∀ x ∈ xs, x.f.data.length + ls.flatten.length ≤ 2147483648) (hlen0 : ls.flatten.length ≤ 2147483648) (hxl : xs.length < 2147483648) :
    Calls Try.prog 49 #[.pointer (some ⟨bf, 0, none⟩), .pointer (some ⟨bn, 0, none⟩), .pointer (some ⟨bp, 0, none⟩)] w fun e w' => e = .returned (.tuple #[]) ∧ DoPost w p pow xs mb (appF s.data.toList ls.flatten (xs.map (·.f))) w' := by
  have hc0 : w.cell? ⟨p, 0, none⟩ = some (.map (some mb)) := by simp [World.cell?, h.head]
  have hlook := h.look s hs
  unfold ptrOf at hlook
  obtain ⟨A0, c0, rfl, _⟩ : ∃ A0 c0, v = .slice A0 ls.length c0 ∧ True := by
    obtain ⟨vs, h1, ⟨A, c, h2, _⟩, _⟩ := hp
    exact ⟨A, c, by rw [h2, h1], trivial⟩
  cases hf : findL keyR s.data.toList xs with
  | some x =>
    rw [hf] at hlook
    have HF := Lib.hid hf; clear hf
    have HLEN := Lib.hid hlen; clear hlen
    have HH := Lib.hid h; clear h
    go_enter Try.func49, Try.ntmps49
    go_wp2_with fail
    go_quiet (fail)
    go_wp2_with fail
    obtain ⟨hx, hkx⟩ := findL_some HF.out
    refine (add_any x _ (((HH.out.drewN _).files x hx)) (HH.out.pf x hx).2.2 _ ls (RowsAt.sub (w := w.drewN _) hp (fun b hb => ⟨hb.1, fun hm => hb.2 (.inr (.inr ⟨x, hx, hm⟩))⟩)) (HLEN.out x hx)).mono ?_
    rintro e w1 ⟨rfl, v', hF, hN, hK, hG⟩
    clear hlook
    go_wp2
    go_end0
    exact ⟨rfl, append1_some HH.out HF.out hF hN ⟨hK.os, hK.tape, hK.output, hK.size, hK.block⟩ hG⟩
  | none =>
    rw [hf] at hlook
    have HF := Lib.hid hf; clear hf
    have HLEN := Lib.hid hlen; clear hlen
    have HH := Lib.hid h; clear h
    go_enter Try.func49, Try.ntmps49
    go_wp2_with fail
    go_quiet (fail)
    go_wp2_with fail
    have hne0 : bf ≠ w.heap.size := by have := World.block_lt_of_cell? w _ hbf; simp at this; omega
    have hne1 : bn ≠ w.heap.size := by have := World.block_lt_of_cell? w _ hbn; simp at this; omega
    have hne2 : p ≠ w.heap.size := by have := World.block_lt_of_cell? w _ hc0; simp at this; omega
    have hne3 : bp ≠ w.heap.size := by have := World.block_lt_of_cell? w _ hbp; simp at this; omega
    obtain ⟨W, hW⟩ : ∃ W, W = (w.drewN nq).alloc (.cells #[.slice none 0 0, .int .i64 0] 89) := ⟨_, rfl⟩
    have hWc : ∀ b o, b ≠ w.heap.size → W.cell? ⟨b, o, none⟩ = w.cell? ⟨b, o, none⟩ := fun b o hb => by rw [hW]; exact World.cell?_alloc_old _ _ _ hb
    have g0 := (hWc bf 0 hne0).trans hbf
    have g1 := (hWc bn 0 hne1).trans hbn
    have g2 := (hWc p 0 hne2).trans hc0
    have g3 := (hWc bp 0 hne3).trans hbp
    have hWs : W.heap.size = w.heap.size + 1 := by rw [hW]; simp
    rw [← hW]
    have HBP := Lib.hid hbp
    have HBL := Lib.hid (World.block_lt_of_cell? w _ hbp)
    have HW := Lib.hid hW; clear hW hlook hWc hbf hbn hc0 hbp
    have HWs := Lib.hid hWs; clear hWs
    have hbW : Below w.heap.size w W := by rw [HW.out]; exact (below_drewN (Below.refl _ _) nq).alloc (Nat.le_refl _) _
    have hqW : W.heap[w.heap.size]? = some (.cells #[.slice none 0 0, .int .i64 0] 89 (0, 0)) := by rw [HW.out]; exact heap_alloc_new (w.drewN nq) _
    have hmW : W.drew.ownsMap Try.prog 9 ptrElem mb xs.length (dat xs) := ownsMap_block HH.out.map (hbW.block mb HH.out.map.lt)
    go_still_tail 6, (by kernel_rfl)
    change wpList _ _ _ _ _ W.drew
    refine wpList_mapUpdate_own _ rfl _ _ _ 82 rfl 9 87 strK Try.underlying82 ptrElem mb xs.length (dat xs) rfl hmW (by unfold maxLen; omega) _ _ (.string s.data.toList) rfl rfl (keyStr s hs) (.lit (.int .i64 w.heap.size)) [] rfl ?_
    intro w3 hmap3 hg3
    obtain ⟨h3, k3, gr3⟩ := HH.out.fresh s.data.toList hbW hqW hmap3 ⟨hg3.os, hg3.tape, hg3.output, hg3.size, hg3.block⟩
    have hx : (⟨⟨s.data.toList, [], 0⟩, w.heap.size, .slice none 0 0⟩ : FileR) ∈ withL keyR ⟨⟨s.data.toList, [], 0⟩, w.heap.size, .slice none 0 0⟩ xs := mem_withL.2 (.inl rfl)
    have hp3 := hp.kept k3 gr3
    have g33 : w3.cell? ⟨bp, 0, none⟩ = some (.slice A0 ls.length c0)  := (k3.cell (p := ⟨bp, 0, none⟩) HBL.out hbpF).trans HBP.out
    clear hg3 hmap3 hmW hqW
    go_wp2_with fail
    refine (add_any ⟨⟨s.data.toList, [], 0⟩, w.heap.size, .slice none 0 0⟩ _ (h3.files _ hx) (by simp [Value.ownBlock]) _ ls (hp3.sub (fun b hb => ⟨hb.1, fun hm => hb.2 (.inr (.inr ⟨_, hx, hm⟩))⟩)) (by simpa using hlen0)).mono ?_
    rintro e w4 ⟨rfl, v', hF, hN, hK, hG⟩
    go_wp2
    go_end0
    refine ⟨rfl, append1_none HF.out h3 k3 gr3 (by simpa [FileR.set] using hF) hN hK (fun g e => ?_)⟩
    rcases hG g e with h | h
    · simp [Value.ownBlock] at h
    · exact h
end Go.Proofs.Ytpdelgjfamelfaa
