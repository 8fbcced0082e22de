import Derived.Test.YtpdelgjfamelfaaVT
import Derived.RangeFuncWrites
namespace Go.Proofs.Ytpdelgjfamelfaa
open Go.RowKit Go.Lib Go.Vfs Go.Par Go.Shelf
set_option linter.unusedVariables false

section
variable {pL mL q N len c2 b7 : Nat} {A2 : Option Addr} {S : ByteArray} {W : World} {Post : Value → World → Prop} {Fin : World → Prop} {Q : Exit → Act → World → Prop} {l n : Nat}
/-- the whole region. -/
theorem region11 (hb7 : W.cell? ⟨b7, 0, none⟩ = some (.pointer (some ⟨pL, 0, none⟩))) (hpL : W.cell? ⟨pL, 0, none⟩ = some (.map (some mL))) (hq : W.cell? ⟨q, 0, none⟩ = some (.slice A2 len c2)) (hN : N ≤ c2)
    (hkeep : ∀ u w, Post u w → w.cell? ⟨b7, 0, none⟩ = some (.pointer (some ⟨pL, 0, none⟩)) ∧ w.cell? ⟨pL, 0, none⟩ = some (.map (some mL)) ∧ w.cell? ⟨q, 0, none⟩ = some (.slice A2 len c2) ∧ ∃ A n c, u = .slice A n c)
    (hclone : Calls Try.prog 52 #[.slice A2 N c2] W.drew fun e w' => ∃ u, e = .returned u ∧ Post u w')
    (hupd : ∀ u w2, Post u w2 → ∃ w3, (Instr.mapUpdate 82 (.map (some mL)) (.string S) (.pointer (some ⟨w2.heap.size, 0, none⟩))).run Try.prog (w2.alloc (.cells #[u, .int .i64 N] 89)) = .ok () w3 ∧ Fin w3)
    (hQ : ∀ a w, Fin w → Q .normal a w)
    (a : Act) (hs : a.tmps.size = 65) (f7 : a.tmps.getD 7 undef = .pointer (some ⟨b7, 0, none⟩)) (f9 : a.tmps.getD 9 undef = .string S) (f10 : a.tmps.getD 10 undef = .pointer (some ⟨q, 0, none⟩)) (f12 : a.tmps.getD 12 undef = .int .i64 N) :
    (Code.region 11 ops11 true).wpIn (Fence.wide.inRound l) n Try.prog Q a W := by
  refine wpIn_region_any (by kernel_rfl) ?_
  refine wpAnyIn_inv (CInv pL mL q N len c2 b7 A2 S W.drew Post Fin) (fun L a w h => by rw [h.size, size11]) (fun L a w h hr => ?_) (fun L a w h i hi => step11 (W := W.drew) hb7 hpL hq hN hkeep hclone hupd h i hi) _ _ _ _ ?_ ?_
  · have hall := all_listed h.size hr 16
    rcases h.phase with ⟨p, _⟩ | ⟨_, p, _⟩ | ⟨_, _, _, p, _⟩ | ⟨_, hf⟩
    · rw [hall 11 (by omega) (by omega)] at p; cases p
    · rw [hall 14 (by omega) (by omega)] at p; cases p
    · rw [hall 15 (by omega) (by omega)] at p; cases p
    · exact hQ _ _ hf
  · rw [size11]; decide
  · have hrep : ∀ j, (Array.replicate ops11.size false).getD j false = false := fun j => getD_replicate_false _ j
    refine ⟨by rw [Array.size_replicate, size11], hs, f7, f9, f10, f12, fun i v _ hl => ?_, .inl ⟨hrep _, hrep _, hrep _, hrep _, rfl⟩⟩
    rw [hrep] at hl; cases hl
end

/- what a loss of power leaves. -/
def cutK (keeps : List Int) (i : Nat) : Int := if keeps.length = 0 then 0 else keeps.getD (i % keeps.length) 0
def cutN (k : Int) (f : File) : Nat := f.safe + min k.toNat (f.data.length - f.safe)
def crashF (keeps : List Int) (i : Nat) (f : File) : File := ⟨f.name, f.data.take (cutN (cutK keeps i) f), cutN (cutK keeps i) f⟩
def crashL (keeps : List Int) : Nat → List File → List File
  | _, [] => []
  | i, f :: fs => crashF keeps i f :: crashL keeps (i + 1) fs
theorem crashL_snoc (keeps : List Int) (x : File) : ∀ (l : List File) (i : Nat), crashL keeps i (l ++ [x]) = crashL keeps i l ++ [crashF keeps (i + l.length) x]
  | [], i => by simp [crashL]
  | f :: l, i => by
    rw [List.cons_append, crashL, crashL_snoc keeps x l (i + 1), crashL]
    simp [Nat.add_assoc, Nat.add_comm 1]
theorem crashL_names (keeps : List Int) : ∀ (l : List File) (i : Nat), (crashL keeps i l).map File.name = l.map File.name
  | [], _ => rfl
  | f :: l, i => by rw [crashL, List.map_cons, List.map_cons, crashL_names keeps l (i + 1)]; rfl
theorem crashL_length (keeps : List Int) (l : List File) (i : Nat) : (crashL keeps i l).length = l.length := by
  have := congrArg List.length (crashL_names keeps l i)
  simpa using this
/-- the files as the loop puts them. -/
def crashW (keeps : List Int) (l : List File) : List File := (crashL keeps 0 l).foldl (fun acc f => withL File.name f acc) []
theorem crashW_snoc (keeps : List Int) (l : List File) (x : File) : crashW keeps (l ++ [x]) = withL File.name (crashF keeps l.length x) (crashW keeps l) := by
  unfold crashW
  rw [crashL_snoc, List.foldl_append]
  simp
theorem withL_last {α : Type} {key : α → List UInt8} {x : α} : ∀ {l : List α}, (∀ y ∈ l, bytesBefore (key y) (key x) = true) → withL key x l = l ++ [x]
  | [], _ => rfl
  | y :: l, h => by
    have hy := h y (by simp)
    have hne : (key y == key x) = false := beq_eq_false_iff_ne.2 fun e => by rw [e, before_irrefl] at hy; cases hy
    have ih := withL_last (l := l) (fun z hz => h z (by simp [hz]))
    unfold withL at ih ⊢
    have hd : dropL key (key x) (y :: l) = y :: dropL key (key x) l := by unfold dropL; rw [List.filter_cons, hne]; rfl
    rw [hd]
    unfold putL
    rw [before_asymm hy, if_neg (by simp), ih]
    rfl
theorem fold_rising {α : Type} {key : α → List UInt8} : ∀ (rest acc : List α), Rising key (acc ++ rest) → rest.foldl (fun a f => withL key f a) acc = acc ++ rest
  | [], acc, _ => by simp
  | x :: rest, acc, h => by
    rw [List.foldl_cons, withL_last (fun y hy => by
      have := List.pairwise_append.1 h
      exact this.2.2 y hy x (by simp)), fold_rising rest (acc ++ [x]) (by simpa using h)]
    simp
theorem crashW_rising (keeps : List Int) {l : List File} (h : Rising File.name l) : crashW keeps l = crashL keeps 0 l := by
  unfold crashW
  have hr : Rising File.name (crashL keeps 0 l) := by
    have h1 : (l.map File.name).Pairwise (fun a b => bytesBefore a b = true) := List.pairwise_map.2 h
    rw [← crashL_names keeps l 0] at h1
    exact List.pairwise_map.1 h1
  have := fold_rising (key := File.name) (crashL keeps 0 l) [] (by simpa using hr)
  simpa using this
theorem length_putL {α : Type} {key : α → List UInt8} (x : α) : ∀ l : List α, (putL key x l).length = l.length + 1
  | [] => rfl
  | y :: l => by
    unfold putL
    split
    · rfl
    · simp [length_putL x l]
theorem length_withL {α : Type} {key : α → List UInt8} (x : α) (l : List α) : (withL key x l).length ≤ l.length + 1 := by
  unfold withL
  rw [length_putL]
  have : (dropL key (key x) l).length ≤ l.length := List.length_filter_le _ _
  omega
theorem crashW_length (keeps : List Int) (l : List File) : (crashW keeps l).length ≤ l.length := by
  have key : ∀ (fs acc : List File), (fs.foldl (fun a f => withL File.name f a) acc).length ≤ acc.length + fs.length := by
    intro fs
    induction fs with
    | nil => intro acc; simp
    | cons f fs ih =>
      intro acc
      rw [List.foldl_cons]
      have h1 := ih (withL File.name f acc)
      have h2 := length_withL (key := File.name) f acc
      simp
      omega
  have := key (crashL keeps 0 l) []
  rw [crashL_length] at this
  simpa [crashW] using this
def stCrash (st : St) (keeps : List Int) (power : Int) : St := ⟨power, crashL keeps 0 st.files⟩

/-- a new file with bytes of its own, in the map. -/
theorem FSAt.fresh2 {W V w3 : World} {p : Nat} {pow : Int} {ys : List FileR} {mb n : Nat} (h : FSAt W p pow ys mb) (x' : FileR) (hf : FileAt w3 x') (hne : x'.v.ownBlock ≠ some x'.q)
    (hmap : w3.ownsMap Try.prog 9 ptrElem mb n ((dat ys).put (.string x'.f.name) (.lit (.int .i64 x'.q)))) (hb : Below W.heap.size W V) (hg : V.grownBy w3 (some mb)) (hq : ∀ k ∈ blocksR x', W.heap.size ≤ k) :
    FSAt w3 p pow (withL keyR x' ys) mb := by
  have hk3 : ∀ k, k < W.heap.size → k ≠ mb → w3.heap[k]? = W.heap[k]? := fun k hk hne => (hg.block k (Nat.lt_of_lt_of_le hk hb.size) (fun e => hne (by cases e; rfl))).trans (hb.block k hk)
  have hml := h.map.lt
  have hpl := lt_of_block h.head
  refine h.put x' hf hne (n := n) (by rw [← dat_put]; exact hmap) (hk3 p hpl h.pm) (fun y hy _ k hk => hk3 k ((h.files y hy).lt k hk) (fun e => (h.pf y hy).2.1 (e ▸ hk))) (fun k hk => ?_)
  have := hq k hk
  exact ⟨by omega, by omega, fun y hy _ hky => by have := (h.files y hy).lt k hky; omega⟩
end Go.Proofs.Ytpdelgjfamelfaa
