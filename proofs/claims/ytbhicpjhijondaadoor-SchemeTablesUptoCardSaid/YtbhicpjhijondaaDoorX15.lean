/- Two puts in either order: plain. -/
import Derived.Test.YtbhicpjhijondaaDoorX14
namespace Go.Typ
open Go.RowKit Go.Lib Go.Vfs Go.Par
def SortedX (xs : List Ex) : Prop := xs.Pairwise fun a b => ltB a.name b.name = true
theorem ins_mem {one z : Ex} {xs : List Ex} : z ∈ insR one xs ↔ (z ∈ xs ∧ ¬ z.name = one.name) ∨ z = one := by
  obtain ⟨pre, post, h1, h2⟩ := ins_split one xs
  rw [h1, ← dropX_mem, h2]
  simp only [List.mem_append, List.mem_cons]
  constructor
  · rintro (h | h | h)
    · exact .inl (.inl h)
    · exact .inr h
    · exact .inl (.inr h)
  · rintro ((h | h) | h)
    · exact .inl h
    · exact .inr (.inr h)
    · exact .inr (.inl h)
theorem drop_sorted {xs : List Ex} (h : SortedX xs) (nm : ByteArray) : SortedX (dropX xs nm) := by
  unfold dropX SortedX at *
  exact h.filter _
theorem ins_sorted (one : Ex) : ∀ xs : List Ex, SortedX xs → SortedX (insR one xs)
  | [], _ => by unfold insR SortedX; simp
  | x :: xs, h => by
    obtain ⟨h1, h2⟩ := List.pairwise_cons.1 h
    rw [insR]
    by_cases e : x.name = one.name
    · rw [if_pos e]; exact ins_sorted one xs h2
    · rw [if_neg e]
      by_cases g : gtB x.name one.name = true
      · rw [if_pos g]
        have hl : ltB one.name x.name = true := by rw [← gtB_lt e]; exact g
        refine List.pairwise_cons.2 ⟨fun z hz => ?_, List.pairwise_cons.2 ⟨fun z hz => h1 z (dropX_mem.1 hz).1, drop_sorted h2 _⟩⟩
        rcases List.mem_cons.1 hz with rfl | hz
        · exact hl
        · exact ltB_trans hl (h1 z (dropX_mem.1 hz).1)
      · rw [if_neg g]
        refine List.pairwise_cons.2 ⟨fun z hz => ?_, ins_sorted one xs h2⟩
        rcases ins_mem.1 hz with hz | rfl
        · exact h1 z hz.1
        · rw [gtB_lt e] at g
          cases hx : ltB x.name z.name with
          | true => rfl
          | false => exact absurd (ltB_total hx (by simpa using g)) e
theorem sorted_ext : ∀ {a b : List Ex}, SortedX a → SortedX b → (∀ z, z ∈ a ↔ z ∈ b) → a = b
  | [], [], _, _, _ => rfl
  | [], y :: b, _, _, h => by have := (h y).2 (by simp); simp at this
  | x :: a, [], _, _, h => by have := (h x).1 (by simp); simp at this
  | x :: a, y :: b, h1, h2, h => by
    obtain ⟨a1, a2⟩ := List.pairwise_cons.1 h1
    obtain ⟨b1, b2⟩ := List.pairwise_cons.1 h2
    have irr : ∀ z : Ex, ¬ ltB z.name z.name = true := fun z hz => by rw [ltB_irrefl] at hz; cases hz
    have hxy : x = y := by
      rcases List.mem_cons.1 ((h x).1 (by simp)) with hx | hx
      · exact hx
      · rcases List.mem_cons.1 ((h y).2 (by simp)) with hy | hy
        · exact hy.symm
        · exact absurd (ltB_trans (b1 x hx) (a1 y hy)) (irr y)
    subst hxy
    rw [sorted_ext a2 b2 fun z => ?_]
    constructor
    · intro hz
      rcases List.mem_cons.1 ((h z).1 (by simp [hz])) with e | hz2
      · subst e; exact absurd (a1 z hz) (irr z)
      · exact hz2
    · intro hz
      rcases List.mem_cons.1 ((h z).2 (by simp [hz])) with e | hz2
      · subst e; exact absurd (b1 z hz) (irr z)
      · exact hz2
/-- two rows of two exports, just written. -/
theorem ExsAt.two {W : World} {x y : Ex} {A A' : Option Addr} {c c' : Nat} (hn : x.name.size ≤ 9223372036854775807) (hT : TyAt (· < W.heap.size) W (tyV x.ty.kind x.ty.num x.ty.name A x.ty.args.length c) x.ty)
    (hn' : y.name.size ≤ 9223372036854775807) (hT' : TyAt (· < W.heap.size) W (tyV y.ty.kind y.ty.num y.ty.name A' y.ty.args.length c') y.ty) (t : TypeId) {W' : World}
    (hW : W' = W.alloc (.cells #[.string x.name, .int .i64 x.ty.kind, .int .i64 x.ty.num, .string x.ty.name, .slice A x.ty.args.length c, .string y.name, .int .i64 y.ty.kind, .int .i64 y.ty.num, .string y.ty.name, .slice A' y.ty.args.length c'] t)) :
    ExsAt (· < W'.heap.size) W' (.slice (some ⟨W.heap.size, 0, none⟩) 2 2) [x, y] := by
  subst hW
  refine ⟨_, 2, rfl, Nat.le_refl _, by simp [maxLen], fun i => if i = 0 then exV x A c else exV y A' c', fun _ => ⟨W.heap.size, 0, rfl, by simp, fun i hi j hj => ?_⟩, fun i hi => ?_⟩
  · have : i = 0 ∨ i = 1 := by simp at hi; omega
    have hj5 : j = 0 ∨ j = 1 ∨ j = 2 ∨ j = 3 ∨ j = 4 := by omega
    rw [World.cell?_alloc_new]
    rcases this with rfl | rfl <;> rcases hj5 with rfl | rfl | rfl | rfl | rfl <;> rfl
  · have : i = 0 ∨ i = 1 := by simp at hi; omega
    rcases this with rfl | rfl
    · exact ⟨A, c, rfl, hn, hT.blw ((Below.refl _ _).alloc (Nat.le_refl _) _)⟩
    · exact ⟨A', c', rfl, hn', hT'.blw ((Below.refl _ _).alloc (Nat.le_refl _) _)⟩
end Go.Typ
namespace Go.Proofs.YtbhicpjhijondaaDoor
open Go.RowKit Go.Lib Go.Vfs Go.Par Go.Typ Go.Shelf
set_option linter.unusedVariables false
set_option linter.unusedSimpArgs false

theorem rightX_sorted {xs : List Ex} (h : rightX xs = true) : SortedX xs := by
  have adj : ∀ k (hk : k + 1 < xs.length), ltB xs[k].name xs[k + 1].name = true := fun k hk => by
    have hg := rightX_good h hk
    rw [goodX_at hk] at hg
    simp only [Bool.and_eq_true, Bool.or_eq_true, decide_eq_true_eq] at hg
    have h2 := hg.2.1.resolve_left (by omega)
    rw [Nat.add_sub_cancel, List.getD_eq_getElem?_getD, List.getElem?_eq_getElem (by omega)] at h2
    exact h2
  refine List.pairwise_iff_getElem.2 fun i j hi hj hij => ?_
  obtain ⟨d, rfl⟩ : ∃ d, j = i + 1 + d := ⟨j - (i + 1), by omega⟩
  clear hij
  induction d with
  | zero => exact adj i hj
  | succ d ih => exact ltB_trans (ih (by omega)) (adj (i + 1 + d) hj)
/-- two exports put one behind the other make the same table in either order. -/
theorem puts_comm {l : List Ex} {x y : Ex} (hne : ¬ x.name = y.name) (ha : rightX (putX l x) = true) (hb : rightX (putX l y) = true) : putX (putX l x) y = putX (putX l y) x := by
  have sa := rightX_sorted ha
  have sb := rightX_sorted hb
  rw [putX_ins] at sa sb
  rw [putX_ins, putX_ins, putX_ins, putX_ins]
  refine sorted_ext (ins_sorted y _ sa) (ins_sorted x _ sb) fun z => ?_
  rw [ins_mem, ins_mem, ins_mem, ins_mem]
  have hne' : ¬ y.name = x.name := fun e => hne e.symm
  constructor
  · rintro (⟨⟨h1, h2⟩ | rfl, h3⟩ | rfl)
    · exact .inl ⟨.inl ⟨h1, h3⟩, h2⟩
    · exact .inr rfl
    · exact .inl ⟨.inr rfl, hne'⟩
  · rintro (⟨⟨h1, h2⟩ | rfl, h3⟩ | rfl)
    · exact .inl ⟨.inl ⟨h1, h3⟩, h2⟩
    · exact .inr rfl
    · exact .inl ⟨.inr rfl, hne⟩
/-- what Put answers, with names for it. -/
theorem put_gen {xs : List Ex} {one : Ex} {w w' : World} {e : Ending} (hp : PutPost xs one w e w') :
    ∃ v' n Q, e = .returned (.tuple #[v', .int .i64 n]) ∧ Below w.heap.size w w' ∧ ExsAt (· < w'.heap.size) w' v' Q ∧ Hid (n = if rightX (putX xs one) then 0 else 140) ∧ Hid (Q = if rightX (putX xs one) then putX xs one else []) := by
  obtain ⟨v', he, hb, h1, h2⟩ := hp
  refine ⟨v', _, if rightX (putX xs one) then putX xs one else [], he, hb, ?_, Lib.hid rfl, Lib.hid rfl⟩
  cases hr : rightX (putX xs one) with
  | true => rw [if_pos rfl]; exact h1 hr
  | false => rw [if_neg (by decide), h2 hr]; exact ExsAt.nil _ _ _ _ (by simp [maxLen])
/-- an export in a box, between calls. -/
structure EB (w : World) (b : Nat) (x : Ex) (A : Option Addr) (c : Nat) (W : World) : Prop where
  box : W.heap[b]? = some (.cells #[.string x.name, .int .i64 x.ty.kind, .int .i64 x.ty.num, .string x.ty.name, .slice A x.ty.args.length c] 46 (0, 0))
  ty : TyAt (· < W.heap.size) W (tyV x.ty.kind x.ty.num x.ty.name A x.ty.args.length c) x.ty
  below : Below w.heap.size w W
theorem EB.t {w : World} {b : Nat} {x : Ex} {A : Option Addr} {c : Nat} {W W' : World} (h : EB w b x A c W) (hb : Below W.heap.size W W') : EB w b x A c W' :=
  ⟨(hb.block _ (lt_blk h.box)).trans h.box, h.ty.blw hb, h.below.trans (hb.mono h.below.size)⟩
/-- the law's arguments between calls. -/
structure PO (w : World) (x y : Ex) (A A' : Option Addr) (c c' : Nat) (lv : Value) (xs : List Ex) (W : World) : Prop where
  ex : EB w w.heap.size x A c W
  ey : EB w (w.heap.size + 1) y A' c' W
  row : ExsAt (· < W.heap.size) W lv xs
theorem PO.t {w : World} {x y : Ex} {A A' : Option Addr} {c c' : Nat} {lv : Value} {xs : List Ex} {W W' : World} (h : PO w x y A A' c c' lv xs W) (hb : Below W.heap.size W W') : PO w x y A A' c c' lv xs W' := ⟨h.ex.t hb, h.ey.t hb, h.row.blw hb⟩
end Go.Proofs.YtbhicpjhijondaaDoor
