/- Plain: the publications that were taken, and what is replayed of a front of them; a row's length. -/
import Derived.Test.YtaalbcfpacpgfaaGreatI18
namespace Go.Proofs.YtaalbcfpacpgfaaGreat
open Go.RowKit Go.Lib Go.Vfs Go.Par Go.Typ Go.Shelf Go.Ix
set_option linter.unusedVariables false
set_option linter.unusedSimpArgs false

/-- those that Publish takes. -/
def accL (xs : List En) : List En := xs.filter accB
theorem accL_next {xs : List En} {k : Nat} (h : k < xs.length) (ha : accB xs[k] = true) : accL (xs.take (k + 1)) = accL (xs.take k) ++ [xs[k]] := by
  rw [List.take_succ_eq_append_getElem h]
  unfold accL
  rw [List.filter_append]
  simp [ha]
theorem accL_skip {xs : List En} {k : Nat} (h : k < xs.length) (ha : accB xs[k] = false) : accL (xs.take (k + 1)) = accL (xs.take k) := by
  rw [List.take_succ_eq_append_getElem h]
  unfold accL
  rw [List.filter_append]
  simp [ha]
theorem accL_len (xs : List En) : (accL xs).length ≤ xs.length := List.length_filter_le _ _
theorem accL_ok {xs : List En} : ∀ e ∈ accL xs, okE e = true := fun e he => (accB_len (List.mem_filter.1 he).2).1
theorem pubL_acc {xs : List En} {k : Nat} (h : k < xs.length) (l0 : List (List UInt8)) : pubL (l0 ++ (accL (xs.take k)).map recE) xs[k] = l0 ++ (accL (xs.take (k + 1))).map recE := by
  unfold pubL
  cases ha : accB xs[k] with
  | true => rw [if_pos rfl, accL_next h ha, List.map_append, ← List.append_assoc]; rfl
  | false => rw [if_neg (by decide), accL_skip h ha]
theorem pubE_acc {xs : List En} {k : Nat} (h : k < xs.length) (pre : List En) : pubE (mkN (pre ++ accL (xs.take k))) xs[k] = mkN (pre ++ accL (xs.take (k + 1))) := by
  unfold pubE
  cases ha : accB xs[k] with
  | true => rw [if_pos rfl, accL_next h ha, ← List.append_assoc, mkN_snoc]
  | false => rw [if_neg (by decide), accL_skip h ha]
theorem replay_recs : ∀ (ys es : List En), (∀ e ∈ ys, okE e = true) → replay es (ys.map recE) = some (ys.foldl (fun es e => withL keyE e es) es)
  | [], es, _ => rfl
  | y :: ys, es, h => by
    rw [List.map_cons, replay, stepE_put es (h y (by simp))]
    exact replay_recs ys _ fun e he => h e (by simp [he])
/-- what is replayed of a front of the records behind others. -/
theorem replay_front {base lga : List (List UInt8)} {pre ys : List En} (h : replay [] (base ++ lga) = some (mkN pre)) (hy : ∀ e ∈ ys, okE e = true) {m : Nat} (hm : lga.length ≤ m) :
    replay [] (base ++ (lga ++ ys.map recE).take m) = some (mkN ((pre ++ ys).take (pre.length + (m - lga.length)))) := by
  have e1 : (lga ++ ys.map recE).take m = lga ++ (ys.take (m - lga.length)).map recE := by rw [List.take_append, List.take_of_length_le hm, List.map_take]
  have e2 : (pre ++ ys).take (pre.length + (m - lga.length)) = pre ++ ys.take (m - lga.length) := by rw [List.take_append, List.take_of_length_le (l := pre) (Nat.le_add_right _ _), Nat.add_sub_cancel_left]
  rw [e1, e2, ← List.append_assoc, replay_append, h]
  simp only
  rw [replay_recs _ _ fun e he => hy e (List.mem_of_mem_take he)]
  unfold mkN
  rw [List.foldl_append]
theorem sumA_next {list : List En} {k A : Nat} (hk : k < list.length) (h : (A : Int) ≤ 90 * wtEs (list.take k)) : ((A + lenA list[k] : Nat) : Int) ≤ 90 * wtEs (list.take (k + 1)) := by
  have := lenA_wt list[k]
  rw [wtEs_take hk]
  omega
theorem and1 (n : Int) : ∃ q : Nat, q ≤ 1 ∧ bits .and .i64 n 1 = (q : Int) := by
  have h3 : (BitVec.ofInt 64 1).toNat = 2 ^ 1 - 1 := by decide
  have e : (BitVec.ofInt 64 n &&& BitVec.ofInt 64 1).toNat = (BitVec.ofInt 64 n).toNat % 2 ^ 1 := by rw [BitVec.toNat_and, h3, Nat.and_two_pow_sub_one_eq_mod]
  refine ⟨(BitVec.ofInt 64 n).toNat % 2, by omega, ?_⟩
  show IntKind.i64.wrap ((BitVec.ofInt 64 n &&& BitVec.ofInt 64 1).toNat : Nat) = _
  rw [e, IntKind.wrap_i64]
  omega
/-- an index that could not be opened. -/
theorem IxOpenPost.failed {w w' : World} {p : Nat} {F : Nat → Prop} {st : St} {n : Int} {e : Ending} (h : IxOpenPost w p F (st, .error n) e w') : e = .returned (.tuple #[.pointer none, .int .i64 n]) ∧ ∃ F', Fsy w' p st F' ∧ Kept F w w' ∧ Grows w F F' := by
  obtain ⟨F', h1, h2, h3, h4⟩ := h
  exact ⟨h4, F', h1, h2, h3⟩
theorem PX.row {W wr : World} {px p g s c d m : Nat} {base log : List (List UInt8)} {es xs : List En} {v : Value} {us : List Value} (h : PX W wr px p g base log es s c d m xs v us) : RowK 55 3 (EntZ W.heap.size) 0 W.heap.size wr xs v us := by
  obtain ⟨F, H, S, fs, lg, hx, hr, hv⟩ := h; exact hr
theorem PX.good {W wr : World} {px p g s c d m : Nat} {base log : List (List UInt8)} {es xs : List En} {v : Value} {us : List Value} (h : PX W wr px p g base log es s c d m xs v us) : XK base log es := by
  obtain ⟨F, H, S, fs, lg, hx, hr, hv⟩ := h; exact hx.xk
/-- an index opened, with its row. -/
theorem PX.new {W w4 : World} {px p : Nat} {F H S : Nat → Prop} (h : XH W.heap.size W w4 px p ⟨-1, []⟩ 0 [] [] [] F H S) :
    PX W (w4.alloc (.cells #[] 55)) px p 0 [] [] [] 0 0 0 0 [] (.slice (some ⟨w4.heap.size, 0, none⟩) 0 0) [] := by
  have hz := h.below.size
  have hlt := h.xf.lt
  refine ⟨F, H, S, [], none, h.xi.go ((Below.refl _ _).alloc (Nat.le_refl _) _), RowK.made w4 hz, fun k e => ?_⟩
  have e : w4.heap.size = k := by injection e
  exact ⟨fun h => by have := hlt k (.inl h); omega, fun h => by have := hlt k (.inr (.inl h)); omega, fun h => by have := hlt k (.inr (.inr h)); omega⟩
/-- an index opened where a row stands beside it. -/
theorem open_row {W w w' : World} {p g : Nat} {F : Nat → Prop} {st : St} {base RS : List (List UInt8)} {esm xs : List En} {v : Value} {us : List Value} {e : Ending} (hop : IxOpenPost w p F (st, .ok (g, base, RS)) e w') (hr : replay [] (base ++ RS) = some esm) (hb : Below W.heap.size W w) (hF : ∀ k, F k → W.heap.size ≤ k)
    (hR : RowK 55 3 (EntZ W.heap.size) 0 W.heap.size w xs v us) (hv : ∀ k, v.ownBlock = some k → ¬ F k) :
    ∃ px', e = .returned (.tuple #[.pointer (some ⟨px', 0, none⟩), .int .i64 0]) ∧ Hid (∃ st' pp F' H' S', XH W.heap.size W w' px' pp st' g base RS esm F' H' S' ∧ RowK 55 3 (EntZ W.heap.size) 0 W.heap.size w' xs v us) := by
  obtain ⟨px', F', H', S', rfl, hx, -, hk, -⟩ := hop.held hr hb (Nat.le_refl _) hF
  exact ⟨px', rfl, Lib.hid ⟨st, p, F', H', S', hx, RowK.kept hR hk hF hv⟩⟩
end Go.Proofs.YtaalbcfpacpgfaaGreat
