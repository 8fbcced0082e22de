/- say: constructors. -/
import Derived.Test.YtbhicpjhijondaaDoorT16
namespace Go.Par
open Go Go.RowKit
section
variable {P : Program} {ops : Array Oper} {Q : Exit → Act → World → Prop}
theorem wpOp_of {i : Nat} {o : Oper} {K : Act → World → Prop} {a : Act} {w : World} (ho : ops[i]? = some o) (hw : Region.wanted o (yielded ops a.tmps) = true) (h : ∀ K' : Act → World → Prop, (∀ a w, K a w → K' a w) → o.wp P a w K' Q) : wpOp P ops Q i K a w := by
  unfold wpOp
  simp only [ho, hw, if_true]
  exact .inl (h _ fun _ _ h => h)
theorem takeD {S : World → Prop} {md : Region.Mode} {i s : Nat} {oi : Oper} {v : Value} {fuel : Nat} {listed : Array Bool} {a : Act} {w : World} (hi : ops[i]? = some oi) (hd : oi.dst = some s)
    (hs : Region.noSelect ops = true) (hf : Region.free md ops listed i = true) (hr : (Region.ready md ops listed).contains i = true)
    (hQ : ∀ c a w, Q (.panic c) (a.put oi.dst v) w → Q (.panic c) a w) (hy : YieldsIf P ops S oi v a) (hS : S w)
    (h : wpAnyH P md ops Q S fuel (listed.setIfInBounds i true) { tmps := a.tmps.setIfInBounds s v, defers := a.defers } w) : wpAnyH P md ops Q S (fuel + 1) listed a w :=
  wpAnyH_take hi hs hf hr hQ hy hS (by rw [hd]; exact h)
end
end Go.Par
namespace Go.Proofs.YtbhicpjhijondaaDoor
open Go.RowKit Go.Lib Go.Vfs Go.Par Go.Typ Go.Shelf
set_option linter.unusedVariables false
set_option linter.unusedSimpArgs false

/-- what stands behind the arguments. -/
structure ConI (B b : Nat) (T : Ty) (A : Option Addr) (c : Nat) (W : World) (l : List UInt8) (W1 : World) : Prop where
  sb : SB B b W l W1
  box : W1.heap[W.heap.size]? = some (.cells #[.int .i64 T.kind, .int .i64 T.num, .string T.name, .slice A T.args.length c] 24 (0, 0))
  ne : W.heap.size ≠ b
theorem ConI.t {B b : Nat} {T : Ty} {A : Option Addr} {c : Nat} {W W1 W2 : World} {l l' : List UInt8} (h : ConI B b T A c W l W1) (k : SB B b W1 l' W2) : ConI B b T A c W l' W2 :=
  ⟨h.sb.t k, k.at h.box (by decide) h.ne, h.ne⟩
theorem ConI.new {B b : Nat} {T : Ty} {A : Option Addr} {c : Nat} {W W1 W2 : World} {l : List UInt8} (h : ConI B b T A c W l W1) (hb : Below W1.heap.size W1 W2) : ConI B b T A c W l W2 :=
  ⟨h.sb.new hb, (hb.block _ (lt_blk h.box)).trans h.box, h.ne⟩
theorem ConI.start {B b : Nat} {T : Ty} (A : Option Addr) (c : Nat) {W : World} {l : List UInt8} (h : Lib.IsBuilderF 72 5 B b (byteCells l) W) (hB : B ≤ W.heap.size) :
    ConI B b T A c W l (W.alloc (.cells #[.int .i64 T.kind, .int .i64 T.num, .string T.name, .slice A T.args.length c] 24)) :=
  ⟨(SB.refl h hB).new ((Below.refl _ _).alloc (Nat.le_refl _) _), heap_alloc_new _ _, by have := (SB.refl h hB).blt; omega⟩

/-- behind the arguments: a space, the name. -/
def TailC (B b : Nat) (T : Ty) (A : Option Addr) (c : Nat) (W : World) (l : List UInt8) : Prop :=
  ∀ (l' : List UInt8) (w : World), ConI B b T A c W l' w → l'.length ≤ 140737488355000 →
    Calls Tryd.prog 86 #[.pointer (some ⟨b, 0, none⟩), .int .i64 (T.args.length : Nat), .string ⟨#[32]⟩] w fun e w2 => e = .returned (.tuple #[]) ∧ ConI B b T A c W (l' ++ (if T.args.length = 0 then [] else [32])) w2
theorem tail_c (B b : Nat) (T : Ty) (A : Option Addr) (c : Nat) (W : World) (l : List UInt8) : TailC B b T A c W l := fun l' w h hl => by
  refine (between_s B b T.args.length ⟨#[32]⟩ l' w h.sb.bld h.sb.le (by show _ + 1 ≤ _; omega)).mono ?_
  rintro e w2 ⟨rfl, h2⟩
  exact ⟨rfl, h.t h2⟩
theorem name_c {B b : Nat} {T : Ty} {A : Option Addr} {c : Nat} {W w : World} {l : List UInt8} (h : ConI B b T A c W l w) (hl : l.length + T.name.size ≤ 140737488355000) :
    Calls Tryd.prog 83 #[.pointer (some ⟨b, 0, none⟩), .string T.name] w fun e w2 => (∃ v, e = .returned v) ∧ ConI B b T A c W (l ++ T.name.data.toList) w2 := by
  refine (writeString_s B b l T.name w h.sb.bld h.sb.le (by omega)).mono ?_
  rintro e w2 ⟨he, h2⟩
  exact ⟨he, h.t h2⟩
theorem name_len (s : ByteArray) : s.data.toList.length = s.size := by rw [Array.length_toList]; rfl

set_option maxRecDepth 20000 in
set_option maxHeartbeats 2000000 in
theorem say_con0 (T : Ty) (h1 : T.kind = 2) (h0 : T.args.length = 0) : SayC T := by
  intro B b v l W hT h hB htb hg hl
  rw [sayT_con h1, if_neg (by omega), if_pos h0, List.nil_append, List.length_append, name_len] at hl
  rw [sayT_con h1, if_neg (by omega), if_pos h0, List.nil_append]
  have HL := Lib.hid hl
  obtain ⟨A, c, rfl, hc, hm, hn⟩ := hT.form
  obtain ⟨W1, hW1⟩ : ∃ W1, W1 = W.alloc (.cells #[.int .i64 T.kind, .int .i64 T.num, .string T.name, .slice A T.args.length c] 24) := ⟨_, rfl⟩
  have hc1 := ConI.start (T := T) A c h hB
  rw [← hW1] at hc1
  have HC1 := Lib.hid hc1
  obtain ⟨y0, y1, y2, y3⟩ := box4 hc1.box
  have g0 : ((T.args.length : Int) == 1) = false := by simp; omega
  have g1 : ¬ (1 : Int) < (T.args.length : Int) := by omega
  have g2 : T.args.length ≤ 9223372036854775807 := by omega
  have HTL := Lib.hid (tail_c B b T A c W l)
  have H0 := Lib.hid h0
  clear hT h hc hm hn hl hc1 h0
  unfold tyV
  rw [h1] at hW1 y0 ⊢
  clear h1
  go_enter Tryd.func56, Tryd.ntmps56
  go_wp2_with fail
  rw [← hW1]
  clear hW1
  refine (HTL.out _ _ HC1.out (by have := HL.out; omega)).mono ?_
  rintro e w5 ⟨rfl, H5⟩
  have HC5 := Lib.hid H5
  clear y0 y1 y2 y3 H5
  obtain ⟨y0, y1, y2, y3⟩ := box4 HC5.out.box
  have HW5 := Lib.hid (name_c HC5.out (by have := HL.out; simp only [List.length_append]; rw [if_pos H0.out] at this ⊢; simp at this ⊢; omega))
  go_wp2_with fail
  refine HW5.out.mono ?_
  rintro e w6 ⟨⟨v6, rfl⟩, H6⟩
  have HF := Lib.hid H6.sb
  clear H6
  go_wp2
  go_end0
  refine ⟨rfl, ?_⟩
  have h := HF.out
  rw [if_pos H0.out, List.append_nil] at h
  first | exact h | simpa [H0.out] using h

set_option maxRecDepth 20000 in
set_option maxHeartbeats 2000000 in
theorem say_con1 (T : Ty) (ih : ∀ i (hi : i < T.args.length), SayC T.args[i]) (h1 : T.kind = 2) (h0 : T.args.length = 1) : SayC T := by
  intro B b v l W hT h hB htb hg hl
  have hi0 : 0 < T.args.length := by omega
  have hj : joinW [] (T.args.map insT) = insT T.args[0] := by
    obtain ⟨x, hx⟩ : ∃ x, T.args = [x] := List.length_eq_one_iff.1 h0
    simp [hx, joinW]
  have hsay : sayT T = insT T.args[0] ++ [32] ++ T.name.data.toList := by
    rw [sayT_con h1, if_pos h0, if_neg (by omega), hj]
  rw [hsay] at hl ⊢
  clear hj hsay
  have HL := Lib.hid hl; have HI0 := Lib.hid (ih 0 hi0); have HTB := Lib.hid htb
  obtain ⟨A, c, rfl, hc, hm, hn⟩ := hT.form
  obtain ⟨W1, hW1⟩ : ∃ W1, W1 = W.alloc (.cells #[.int .i64 T.kind, .int .i64 T.num, .string T.name, .slice A T.args.length c] 24) := ⟨_, rfl⟩
  have hc1 := ConI.start (T := T) A c h hB
  rw [← hW1] at hc1
  obtain ⟨bb, off, A', c', rfl, hbb, ht, x0, x1, x2, x3⟩ := (hc1.sb.ty hT).arg hi0
  simp only [Nat.zero_mul, Nat.add_zero] at x0 x1 x2 x3
  have HC1 := Lib.hid hc1; have HT0 := Lib.hid ht
  obtain ⟨y0, y1, y2, y3⟩ := box4 hc1.box
  have g0 : ((T.args.length : Int) == 1) = true := by simp; omega
  have g1 : ¬ (1 : Int) < (T.args.length : Int) := by omega
  have g2 : T.args.length ≤ 9223372036854775807 := by omega
  have g3 : 0 < T.args.length := by omega
  have HTL := Lib.hid (tail_c B b T (some ⟨bb, off, none⟩) c W l)
  have H0 := Lib.hid h0
  clear hT h hc hm hn hl hc1 h0 ih ht
  generalize T.args[0] = X at *
  have hlt : bb < W1.heap.size := lt_cell x0
  have HSK : Hid (∀ w2, Below W1.heap.size W1 w2 → w2.cell? ⟨W.heap.size, 3, none⟩ = some (.slice (some ⟨bb, off, none⟩) T.args.length c) ∧ w2.cell? ⟨bb, off, none⟩ = some (.int .i64 X.kind) ∧ w2.cell? ⟨bb, off + 1, none⟩ = some (.int .i64 X.num) ∧ w2.cell? ⟨bb, off + 2, none⟩ = some (.string X.name) ∧ w2.cell? ⟨bb, off + 3, none⟩ = some (.slice A' X.args.length c')) := Lib.hid fun w2 hw =>
    ⟨(hw.cell (p := ⟨_, _, none⟩) (lt_blk HC1.out.box)).trans y3, (hw.cell (p := ⟨_, _, none⟩) hlt).trans x0, (hw.cell (p := ⟨_, _, none⟩) hlt).trans x1, (hw.cell (p := ⟨_, _, none⟩) hlt).trans x2, (hw.cell (p := ⟨_, _, none⟩) hlt).trans x3⟩
  have HSI : Hid (∀ yes, yes = pairB X → ∀ w2, Below W1.heap.size W1 w2 → Calls Tryd.prog 85 #[.pointer (some ⟨b, 0, none⟩), .agg #[.int .i64 X.kind, .int .i64 X.num, .string X.name, .slice A' X.args.length c'], .bool yes] w2 fun e W' => e = .returned (.tuple #[]) ∧ ConI B b T (some ⟨bb, off, none⟩) c W (l ++ insT X) W' ∧ (W'.cell? ⟨W.heap.size, 3, none⟩ = some (.slice (some ⟨bb, off, none⟩) T.args.length c) ∧ W'.cell? ⟨bb, off, none⟩ = some (.int .i64 X.kind) ∧ W'.cell? ⟨bb, off + 1, none⟩ = some (.int .i64 X.num) ∧ W'.cell? ⟨bb, off + 2, none⟩ = some (.string X.name) ∧ W'.cell? ⟨bb, off + 3, none⟩ = some (.slice A' X.args.length c'))) := Lib.hid fun yes hy w2 hw => by
    have hs := HC1.out.new hw
    refine (sayIn_s HI0.out B b _ yes l w2 (HT0.out.keep fun g hg2 => ⟨hg2, (hw.mono HC1.out.sb.le).block g hg2⟩) hs.sb.bld hs.sb.le (hs.sb.tb HTB.out hg) hg ?_).mono ?_
    · have := HL.out; rw [hy]; simp only [List.length_append, insT] at this ⊢; omega
    · rintro e W' ⟨rfl, h⟩
      have hc2 := hs.t h
      obtain ⟨k0, k1, k2, k3, k4⟩ := HSK.out w2 hw
      rw [hy] at hc2
      exact ⟨rfl, hc2, (box4 hc2.box).2.2.2, (h.below.cell (p := ⟨_, _, none⟩) hbb).trans k1, (h.below.cell (p := ⟨_, _, none⟩) hbb).trans k2, (h.below.cell (p := ⟨_, _, none⟩) hbb).trans k3, (h.below.cell (p := ⟨_, _, none⟩) hbb).trans k4⟩
  have HBW : Hid (Below W1.heap.size W1 W1.drew) := Lib.hid (Below.refl _ _).drew
  obtain ⟨p3, hp3⟩ : ∃ p, p = decide (X.kind = 3) := ⟨_, rfl⟩
  obtain ⟨p4, hp4⟩ : ∃ p, p = decide (X.kind = 4) := ⟨_, rfl⟩
  have g5 : (X.kind == 3) = p3 := by rw [hp3]; by_cases h : X.kind = 3 <;> simp [h]
  have g6 : (X.kind == 4) = p4 := by rw [hp4]; by_cases h : X.kind = 4 <;> simp [h]
  have HPB : Hid (pairB X = (p3 || p4)) := Lib.hid (by rw [hp3, hp4]; rfl)
  clear hp3 hp4 x0 x1 x2 x3
  unfold tyV
  rw [h1] at hW1 y0 ⊢
  clear h1
  have hcs : (p3 = true) ∨ (p3 = false ∧ p4 = true) ∨ (p3 = false ∧ p4 = false) := by cases p3 <;> cases p4 <;> simp
  rcases hcs with rfl | ⟨rfl, rfl⟩ | ⟨rfl, rfl⟩
  · have HC := Lib.hid (HSI.out true (by rw [HPB.out]; rfl))
    go_enter Tryd.func56, Tryd.ntmps56
    go_wp2_with fail
    rw [← hW1]
    clear hW1
    have HS0 := Lib.hid (HSK.out _ HBW.out)
    refine wp_region_held (S := (fun w2 : World => w2.cell? ⟨W.heap.size, 3, none⟩ = some (.slice (some ⟨bb, off, none⟩) T.args.length c) ∧ w2.cell? ⟨bb, off, none⟩ = some (.int .i64 X.kind) ∧ w2.cell? ⟨bb, off + 1, none⟩ = some (.int .i64 X.num) ∧ w2.cell? ⟨bb, off + 2, none⟩ = some (.string X.name) ∧ w2.cell? ⟨bb, off + 3, none⟩ = some (.slice A' X.args.length c'))) (by kernel_rfl) ?_
    refine takeD (i := 0) (s := 36) (v := .pointer (some ⟨b, 0, none⟩)) rfl rfl (by kernel_rfl) (by kernel_rfl) (by kernel_rfl) (fun _ _ _ h => h) (Or.inl ⟨by rfl, fun w' hS => by obtain ⟨s0, s1, s2, s3, s4⟩ := hS; go_simp⟩) HS0.out ?_
    try simp only [List.setIfInBounds_toArray, List.set_cons_zero, List.set_cons_succ]
    refine takeD (i := 1) (s := 37) (v := .pointer (some ⟨W.heap.size, 3, none⟩)) rfl rfl (by kernel_rfl) (by kernel_rfl) (by kernel_rfl) (fun _ _ _ h => h) (Or.inl ⟨by rfl, fun w' hS => by obtain ⟨s0, s1, s2, s3, s4⟩ := hS; go_simp⟩) HS0.out ?_
    try simp only [List.setIfInBounds_toArray, List.set_cons_zero, List.set_cons_succ]
    refine takeD (i := 2) (s := 38) (v := .slice (some ⟨bb, off, none⟩) T.args.length c) rfl rfl (by kernel_rfl) (by kernel_rfl) (by kernel_rfl) (fun _ _ _ h => h) (Or.inl ⟨by rfl, fun w' hS => by obtain ⟨s0, s1, s2, s3, s4⟩ := hS; go_simp⟩) HS0.out ?_
    try simp only [List.setIfInBounds_toArray, List.set_cons_zero, List.set_cons_succ]
    refine takeD (i := 3) (s := 39) (v := .pointer (some ⟨bb, off, none⟩)) rfl rfl (by kernel_rfl) (by kernel_rfl) (by kernel_rfl) (fun _ _ _ h => h) (Or.inl ⟨by rfl, fun w' hS => by obtain ⟨s0, s1, s2, s3, s4⟩ := hS; go_simp⟩) HS0.out ?_
    try simp only [List.setIfInBounds_toArray, List.set_cons_zero, List.set_cons_succ]
    refine takeD (i := 4) (s := 40) (v := .agg #[.int .i64 X.kind, .int .i64 X.num, .string X.name, .slice A' X.args.length c']) rfl rfl (by kernel_rfl) (by kernel_rfl) (by kernel_rfl) (fun _ _ _ h => h) (Or.inl ⟨by rfl, fun w' hS => by obtain ⟨s0, s1, s2, s3, s4⟩ := hS; go_simp⟩) HS0.out ?_
    try simp only [List.setIfInBounds_toArray, List.set_cons_zero, List.set_cons_succ]
    refine takeD (i := 5) (s := 41) (v := .pointer (some ⟨W.heap.size, 3, none⟩)) rfl rfl (by kernel_rfl) (by kernel_rfl) (by kernel_rfl) (fun _ _ _ h => h) (Or.inl ⟨by rfl, fun w' hS => by obtain ⟨s0, s1, s2, s3, s4⟩ := hS; go_simp⟩) HS0.out ?_
    try simp only [List.setIfInBounds_toArray, List.set_cons_zero, List.set_cons_succ]
    refine takeD (i := 6) (s := 42) (v := .slice (some ⟨bb, off, none⟩) T.args.length c) rfl rfl (by kernel_rfl) (by kernel_rfl) (by kernel_rfl) (fun _ _ _ h => h) (Or.inl ⟨by rfl, fun w' hS => by obtain ⟨s0, s1, s2, s3, s4⟩ := hS; go_simp⟩) HS0.out ?_
    try simp only [List.setIfInBounds_toArray, List.set_cons_zero, List.set_cons_succ]
    refine takeD (i := 7) (s := 43) (v := .pointer (some ⟨bb, off, none⟩)) rfl rfl (by kernel_rfl) (by kernel_rfl) (by kernel_rfl) (fun _ _ _ h => h) (Or.inl ⟨by rfl, fun w' hS => by obtain ⟨s0, s1, s2, s3, s4⟩ := hS; go_simp⟩) HS0.out ?_
    try simp only [List.setIfInBounds_toArray, List.set_cons_zero, List.set_cons_succ]
    refine takeD (i := 8) (s := 44) (v := .pointer (some ⟨bb, off, none⟩)) rfl rfl (by kernel_rfl) (by kernel_rfl) (by kernel_rfl) (fun _ _ _ h => h) (Or.inl ⟨by rfl, fun w' hS => by obtain ⟨s0, s1, s2, s3, s4⟩ := hS; go_simp⟩) HS0.out ?_
    try simp only [List.setIfInBounds_toArray, List.set_cons_zero, List.set_cons_succ]
    refine takeD (i := 9) (s := 45) (v := .int .i64 X.kind) rfl rfl (by kernel_rfl) (by kernel_rfl) (by kernel_rfl) (fun _ _ _ h => h) (Or.inl ⟨by rfl, fun w' hS => by obtain ⟨s0, s1, s2, s3, s4⟩ := hS; go_simp⟩) HS0.out ?_
    try simp only [List.setIfInBounds_toArray, List.set_cons_zero, List.set_cons_succ]
    refine takeD (i := 10) (s := 46) (v := .bool true) rfl rfl (by kernel_rfl) (by kernel_rfl) (by kernel_rfl) (fun _ _ _ h => h) (Or.inl ⟨by rfl, fun w' hS => by obtain ⟨s0, s1, s2, s3, s4⟩ := hS; go_simp⟩) HS0.out ?_
    try simp only [List.setIfInBounds_toArray, List.set_cons_zero, List.set_cons_succ]
    refine takeD (i := 11) (s := 47) (v := .bool true) rfl rfl (by kernel_rfl) (by kernel_rfl) (by kernel_rfl) (fun _ _ _ h => h) (Or.inl ⟨by rfl, fun w' hS => by obtain ⟨s0, s1, s2, s3, s4⟩ := hS; go_simp⟩) HS0.out ?_
    try simp only [List.setIfInBounds_toArray, List.set_cons_zero, List.set_cons_succ]
    refine takeD (i := 12) (s := 48) (v := undef) rfl rfl (by kernel_rfl) (by kernel_rfl) (by kernel_rfl) (fun _ _ _ h => h) (Or.inr ⟨by rfl, rfl⟩) HS0.out ?_
    try simp only [List.setIfInBounds_toArray, List.set_cons_zero, List.set_cons_succ]
    refine takeD (i := 13) (s := 49) (v := undef) rfl rfl (by kernel_rfl) (by kernel_rfl) (by kernel_rfl) (fun _ _ _ h => h) (Or.inr ⟨by rfl, rfl⟩) HS0.out ?_
    try simp only [List.setIfInBounds_toArray, List.set_cons_zero, List.set_cons_succ]
    refine takeD (i := 14) (s := 50) (v := undef) rfl rfl (by kernel_rfl) (by kernel_rfl) (by kernel_rfl) (fun _ _ _ h => h) (Or.inr ⟨by rfl, rfl⟩) HS0.out ?_
    try simp only [List.setIfInBounds_toArray, List.set_cons_zero, List.set_cons_succ]
    refine takeD (i := 15) (s := 51) (v := undef) rfl rfl (by kernel_rfl) (by kernel_rfl) (by kernel_rfl) (fun _ _ _ h => h) (Or.inr ⟨by rfl, rfl⟩) HS0.out ?_
    try simp only [List.setIfInBounds_toArray, List.set_cons_zero, List.set_cons_succ]
    refine takeD (i := 16) (s := 52) (v := undef) rfl rfl (by kernel_rfl) (by kernel_rfl) (by kernel_rfl) (fun _ _ _ h => h) (Or.inr ⟨by rfl, rfl⟩) HS0.out ?_
    try simp only [List.setIfInBounds_toArray, List.set_cons_zero, List.set_cons_succ]
    refine takeD (i := 17) (s := 53) (v := undef) rfl rfl (by kernel_rfl) (by kernel_rfl) (by kernel_rfl) (fun _ _ _ h => h) (Or.inr ⟨by rfl, rfl⟩) HS0.out ?_
    try simp only [List.setIfInBounds_toArray, List.set_cons_zero, List.set_cons_succ]
    refine takeD (i := 18) (s := 54) (v := .bool true) rfl rfl (by kernel_rfl) (by kernel_rfl) (by kernel_rfl) (fun _ _ _ h => h) (Or.inl ⟨by rfl, fun w' hS => by obtain ⟨s0, s1, s2, s3, s4⟩ := hS; go_simp⟩) HS0.out ?_
    try simp only [List.setIfInBounds_toArray, List.set_cons_zero, List.set_cons_succ]
    refine wpAnyH_all (rs := [19]) (by kernel_rfl) (by simp) ?_
    intro i hi
    simp only [List.mem_cons, List.not_mem_nil, or_false] at hi
    subst hi
    refine wpOp_of rfl rfl (fun K hK => ?_)
    go_simp
    refine (HC.out _ HBW.out).mono ?_
    rintro e w2 ⟨rfl, HC2, HK2⟩
    refine hK _ _ ⟨HK2, ?_⟩
    clear hK K
    refine wpAnyH_done (by kernel_rfl) ?_ _
    have HC2' := Lib.hid HC2
    clear y0 y1 y2 y3 HC2 HK2
    obtain ⟨y0, y1, y2, y3⟩ := box4 HC2'.out.box
    go_wp2_with fail
    refine (HTL.out _ _ HC2'.out (by have := HL.out; simp only [List.length_append] at this ⊢; omega)).mono ?_
    rintro e w5 ⟨rfl, H5⟩
    have HC5 := Lib.hid H5
    clear y0 y1 y2 y3 H5
    obtain ⟨y0, y1, y2, y3⟩ := box4 HC5.out.box
    have HW5 := Lib.hid (name_c HC5.out (by have := HL.out; rw [if_neg (by have := H0.out; omega)]; simp only [List.length_append, name_len] at this ⊢; omega))
    go_wp2_with fail
    refine HW5.out.mono ?_
    rintro e w6 ⟨⟨v6, rfl⟩, H6⟩
    have HF := Lib.hid H6.sb
    clear H6
    go_wp2
    go_end0
    refine ⟨rfl, ?_⟩
    have h := HF.out
    rw [if_neg (by have := H0.out; omega)] at h
    simpa [List.append_assoc] using h
  · have HC := Lib.hid (HSI.out true (by rw [HPB.out]; rfl))
    go_enter Tryd.func56, Tryd.ntmps56
    go_wp2_with fail
    rw [← hW1]
    clear hW1
    go_region_held (fun w2 => w2.cell? ⟨W.heap.size, 3, none⟩ = some (.slice (some ⟨bb, off, none⟩) T.args.length c) ∧ w2.cell? ⟨bb, off, none⟩ = some (.int .i64 X.kind) ∧ w2.cell? ⟨bb, off + 1, none⟩ = some (.int .i64 X.num) ∧ w2.cell? ⟨bb, off + 2, none⟩ = some (.string X.name) ∧ w2.cell? ⟨bb, off + 3, none⟩ = some (.slice A' X.args.length c'))
      (first | exact HSK.out _ HBW.out | exact HK2 | assumption) ((go_at_call 85; refine (HC.out _ HBW.out).mono ?_; rintro e w2 ⟨rfl, HC2, HK2⟩))
    have HC2' := Lib.hid HC2
    clear y0 y1 y2 y3 HC2 HK2
    obtain ⟨y0, y1, y2, y3⟩ := box4 HC2'.out.box
    go_wp2_with fail
    refine (HTL.out _ _ HC2'.out (by have := HL.out; simp only [List.length_append] at this ⊢; omega)).mono ?_
    rintro e w5 ⟨rfl, H5⟩
    have HC5 := Lib.hid H5
    clear y0 y1 y2 y3 H5
    obtain ⟨y0, y1, y2, y3⟩ := box4 HC5.out.box
    have HW5 := Lib.hid (name_c HC5.out (by have := HL.out; rw [if_neg (by have := H0.out; omega)]; simp only [List.length_append, name_len] at this ⊢; omega))
    go_wp2_with fail
    refine HW5.out.mono ?_
    rintro e w6 ⟨⟨v6, rfl⟩, H6⟩
    have HF := Lib.hid H6.sb
    clear H6
    go_wp2
    go_end0
    refine ⟨rfl, ?_⟩
    have h := HF.out
    rw [if_neg (by have := H0.out; omega)] at h
    simpa [List.append_assoc] using h
  · have HC := Lib.hid (HSI.out false (by rw [HPB.out]; rfl))
    go_enter Tryd.func56, Tryd.ntmps56
    go_wp2_with fail
    rw [← hW1]
    clear hW1
    go_region_held (fun w2 => w2.cell? ⟨W.heap.size, 3, none⟩ = some (.slice (some ⟨bb, off, none⟩) T.args.length c) ∧ w2.cell? ⟨bb, off, none⟩ = some (.int .i64 X.kind) ∧ w2.cell? ⟨bb, off + 1, none⟩ = some (.int .i64 X.num) ∧ w2.cell? ⟨bb, off + 2, none⟩ = some (.string X.name) ∧ w2.cell? ⟨bb, off + 3, none⟩ = some (.slice A' X.args.length c'))
      (first | exact HSK.out _ HBW.out | exact HK2 | assumption) ((go_at_call 85; refine (HC.out _ HBW.out).mono ?_; rintro e w2 ⟨rfl, HC2, HK2⟩))
    have HC2' := Lib.hid HC2
    clear y0 y1 y2 y3 HC2 HK2
    obtain ⟨y0, y1, y2, y3⟩ := box4 HC2'.out.box
    go_wp2_with fail
    refine (HTL.out _ _ HC2'.out (by have := HL.out; simp only [List.length_append] at this ⊢; omega)).mono ?_
    rintro e w5 ⟨rfl, H5⟩
    have HC5 := Lib.hid H5
    clear y0 y1 y2 y3 H5
    obtain ⟨y0, y1, y2, y3⟩ := box4 HC5.out.box
    have HW5 := Lib.hid (name_c HC5.out (by have := HL.out; rw [if_neg (by have := H0.out; omega)]; simp only [List.length_append, name_len] at this ⊢; omega))
    go_wp2_with fail
    refine HW5.out.mono ?_
    rintro e w6 ⟨⟨v6, rfl⟩, H6⟩
    have HF := Lib.hid H6.sb
    clear H6
    go_wp2
    go_end0
    refine ⟨rfl, ?_⟩
    have h := HF.out
    rw [if_neg (by have := H0.out; omega)] at h
    simpa [List.append_assoc] using h
end Go.Proofs.YtbhicpjhijondaaDoor
