import Derived.Test.YtpdelgjfamelfaaVU
namespace Go.Proofs.Ytpdelgjfamelfaa
open Go.RowKit Go.Lib Go.Vfs Go.Par Go.Shelf
set_option linter.unusedVariables false

/-- what the loop of Crash owns: its counter, the new map. -/
def ExC (b m : Nat) (_ : World) (k : Nat) : Prop := k = b ∨ k = m

/-- what lies between two rounds: the boxes, the file system so far. -/
structure CrashI (w : World) (power : Int) (keeps : List Int) (kv : Value) (cnt : Nat) (fs : List File) (W : World) : Prop where
  b4 : Boxed W w.heap.size 30 kv
  b7 : Boxed W (w.heap.size + 1 + 1 + 1) 24 (.pointer (some ⟨w.heap.size + 1 + 1, 0, none⟩))
  b8 : Boxed W (w.heap.size + 1 + 1 + 1 + 1) 3 (.int .i64 cnt)
  fs : ∃ ys, ys.map (·.f) = crashW keeps fs ∧ FSAt W (w.heap.size + 1 + 1) power ys (w.heap.size + 1) ∧ ∀ y ∈ ys, ∀ k ∈ blocksR y, w.heap.size + 6 ≤ k
  below : Below w.heap.size w W
  size : w.heap.size + 6 ≤ W.heap.size

theorem cutN_le (k : Int) (f : File) (h : f.safe ≤ f.data.length) : cutN k f ≤ f.data.length := by unfold cutN; omega

/-- a round's last statement. -/
theorem crash_put {w V w2 w3 : World} {power : Int} {keeps : List Int} {kv u : Value} {cnt m : Nat} {fs : List File} {f : File} (hI : CrashI w power keeps kv cnt fs V) (hsafe : f.safe ≤ f.data.length) {N : Nat} (hN : N = cutN (cutK keeps fs.length) f)
    (hown : Par.Own w2 V.heap.size 5 u (byteCells (f.data.take N))) (hb2 : Below V.heap.size V w2) {ys : List FileR} (hys : ys.map (·.f) = crashW keeps fs) (hat : FSAt V (w.heap.size + 1 + 1) power ys (w.heap.size + 1)) (hyb : ∀ y ∈ ys, ∀ k ∈ blocksR y, w.heap.size + 6 ≤ k)
    (hmap : w3.ownsMap Try.prog 9 ptrElem (w.heap.size + 1) m ((dat ys).put (.string f.name) (.lit (.int .i64 w2.heap.size)))) (hg : (w2.alloc (.cells #[u, .int .i64 N] 89)).grownBy w3 (some (w.heap.size + 1))) :
    CrashI w power keeps kv cnt (fs ++ [f]) w3 ∧ KeepsFrom (w.heap.size + 6) V w3 ∧ KpE (w.heap.size + 6) (ExC (w.heap.size + 1 + 1 + 1 + 1) (w.heap.size + 1)) V w3 := by
  have hz := hI.size
  have hz2 := hb2.size
  have hb3 : Below V.heap.size V (w2.alloc (.cells #[u, .int .i64 N] 89)) := hb2.alloc hz2 _
  have hsz3 : w2.heap.size + 1 ≤ w3.heap.size := by have := hg.size; simpa using this
  have same : ∀ k, k < V.heap.size → k ≠ w.heap.size + 1 → w3.heap[k]? = V.heap[k]? := fun k hk hne => (hg.block k (by simp; omega) (fun e => hne (by cases e; rfl))).trans (hb3.block k hk)
  have hNl : N ≤ f.data.length := by rw [hN]; exact cutN_le _ _ hsafe
  have hlt := hown.lt
  have hq3 : w3.heap[w2.heap.size]? = some (.cells #[u, .int .i64 N] 89 (0, 0)) := by
    rw [hg.block _ (by simp) (fun e => by have := Option.some.inj e; omega)]
    exact heap_alloc_new w2 _
  have hrow3 : w3.ownsRow 0 5 1 u (f.data.take N).length (byteCells (f.data.take N)) := by
    have h1 : w2.ownsRow V.heap.size 5 1 u (f.data.take N).length (byteCells (f.data.take N)) := by
      have := hown
      unfold Par.Own at this
      rwa [byteCells_length] at this
    refine ownsRow_block (ownsRow_base0 h1) (fun g hg' => ?_)
    obtain ⟨h2, h3⟩ := hlt g hg'
    rw [hg.block g (by simp; omega) (fun e => by have := Option.some.inj e; omega), Below.heap_alloc _ _ _ h3]
  have hx' : crashF keeps fs.length f = ⟨f.name, f.data.take N, N⟩ := by unfold crashF; rw [hN]
  have hub : ∀ k ∈ blocksR ⟨⟨f.name, f.data.take N, N⟩, w2.heap.size, u⟩, V.heap.size ≤ k := by
    intro k hk
    unfold blocksR at hk
    rcases List.mem_cons.1 hk with rfl | hk
    · exact hz2
    · exact (hlt k (by simpa using hk)).1
  have hat3 := hat.fresh2 ⟨⟨f.name, f.data.take N, N⟩, w2.heap.size, u⟩ ⟨hq3, hrow3, by simp; omega⟩ (fun e => by have := (hlt w2.heap.size e).2; omega) hmap hb3 hg hub
  refine ⟨⟨(same _ (by omega) (by omega)).trans hI.b4, (same _ (by omega) (by omega)).trans hI.b7, (same _ (by omega) (by omega)).trans hI.b8, ⟨_, ?_, hat3, fun y hy k hk => ?_⟩, ?_, by omega⟩, ⟨by omega, fun k o hB hk _ => ?_⟩, ⟨by omega, fun k o hk _ hn => ?_, fun k hk => .inl hk⟩⟩
  · rw [map_withL (key := keyR) (key' := File.name) FileR.f (fun _ => rfl), hys, crashW_snoc, hx']
  · rcases mem_withL.1 hy with rfl | ⟨h1, _⟩
    · have := hub k hk; omega
    · exact hyb y h1 k hk
  · exact (hI.below.trans ((hb3.mono (by omega)))).grown hg (by simp; omega) (fun k e => by cases e; omega)
  · rw [same k (lt_of_block hk) (by omega)]; exact hk
  · rw [same k (lt_of_block hk) (fun e => hn (.inr e))]; exact hk

theorem CrashI.drewN {w V : World} {power : Int} {keeps : List Int} {kv : Value} {cnt : Nat} {fs : List File} (h : CrashI w power keeps kv cnt fs V) (n : Nat) : CrashI w power keeps kv cnt fs (V.drewN n) :=
  ⟨h.b4, h.b7, h.b8, by obtain ⟨ys, h1, h2, h3⟩ := h.fs; exact ⟨ys, h1, h2.drewN n, h3⟩, below_drewN h.below n, h.size⟩

/-- the counter goes up. -/
theorem CrashI.count {w V : World} {power : Int} {keeps : List Int} {kv : Value} {cnt : Nat} {fs : List File} (h : CrashI w power keeps kv cnt fs V) (cnt' : Nat) :
    CrashI w power keeps kv cnt' fs (V.setCell ⟨w.heap.size + 1 + 1 + 1 + 1, 0, none⟩ (.int .i64 cnt')) ∧ KeepsFrom (w.heap.size + 6) V (V.setCell ⟨w.heap.size + 1 + 1 + 1 + 1, 0, none⟩ (.int .i64 cnt')) ∧
      KpE (w.heap.size + 6) (ExC (w.heap.size + 1 + 1 + 1 + 1) (w.heap.size + 1)) V (V.setCell ⟨w.heap.size + 1 + 1 + 1 + 1, 0, none⟩ (.int .i64 cnt')) := by
  have hs : (V.setCell ⟨w.heap.size + 1 + 1 + 1 + 1, 0, none⟩ (.int .i64 cnt')).heap.size = V.heap.size := by simp [World.setCell]
  have same : ∀ k, k ≠ w.heap.size + 1 + 1 + 1 + 1 → (V.setCell ⟨w.heap.size + 1 + 1 + 1 + 1, 0, none⟩ (.int .i64 cnt')).heap[k]? = V.heap[k]? := fun k hk => Below.heap_setCell _ _ _ _ hk
  refine ⟨⟨(same _ (by omega)).trans h.b4, (same _ (by omega)).trans h.b7, h.b8.set _, ?_, h.below.setCell (p := ⟨w.heap.size + 1 + 1 + 1 + 1, 0, none⟩) (by simp; omega) _, by rw [hs]; exact h.size⟩, (KeepsOthers.setCell _ _ _).from _, ⟨by rw [hs]; exact Nat.le_refl _, fun k o hk _ hn => ?_, fun k hk => .inl hk⟩⟩
  · obtain ⟨ys, h1, h2, h3⟩ := h.fs
    refine ⟨ys, h1, h2.block (fun k hk => same k (fun e => ?_)), h3⟩
    rcases hk with rfl | rfl | ⟨y, hy, hk⟩
    · omega
    · omega
    · have := h3 y hy k hk; omega
  · rw [same k (fun e => hn (.inl e))]; exact hk
end Go.Proofs.Ytpdelgjfamelfaa
