/- Small writers of a type's words. -/
import Derived.Test.YtbhicpjhijondaaDoorT12
namespace Go.Proofs.YtbhicpjhijondaaDoor
open Go.RowKit Go.Lib Go.Vfs Go.Par Go.Typ Go.Shelf
set_option linter.unusedVariables false
set_option linter.unusedSimpArgs false

theorem itoa_s (n : Int) (h0 : 0 ≤ n) (h1 : n ≤ 9223372036854775807) (W : World) (hT : Tb W) : Calls Tryd.prog 84 #[.int .i64 n] W fun e w1 => e = .returned (.string ⟨(Lib.itoa n).toArray⟩) ∧ Below W.heap.size W w1 := by
  refine (Tryd.strconv_Itoa n (by omega) h1 W hT).mono ?_
  rintro e w1 ⟨rfl, k, os, rfl⟩
  refine ⟨rfl, rfl, rfl, rfl, by simp [Go.Sort.grow], fun j hj => ?_⟩
  show (W.heap ++ os)[j]? = _
  rw [Array.getElem?_append_left hj]

set_option maxHeartbeats 400000 in
theorem between_s (B b n : Nat) (s : ByteArray) (l : List UInt8) (W : World) (h : Lib.IsBuilderF 72 5 B b (byteCells l) W) (hB : B ≤ W.heap.size) (hl : l.length + s.size ≤ 140737488355328) :
    Calls Tryd.prog 86 #[.pointer (some ⟨b, 0, none⟩), .int .i64 n, .string s] W fun e W' => e = .returned (.tuple #[]) ∧ SB B b W (l ++ (if n = 0 then [] else s.data.toList)) W' := by
  have HS := Lib.hid (writeString_s B b l s W h hB hl)
  have HR := Lib.hid (SB.refl h hB)
  clear h
  by_cases hn : n = 0
  · subst hn
    go_enter Tryd.func86, Tryd.ntmps86
    go_wp2
    go_end0
    exact ⟨rfl, by simpa using HR.out⟩
  · have hn2 : (0 : Int) < (n : Int) := by omega
    rw [if_neg hn]
    clear hn
    go_enter Tryd.func86, Tryd.ntmps86
    go_wp2_with (go_at_call 83; refine HS.out.mono ?_; rintro e w2 ⟨⟨v, rfl⟩, H2⟩)
    go_end0
    exact ⟨rfl, H2⟩

/-- the contract of say. -/
def SayC (T : Ty) : Prop := ∀ (B b : Nat) (v : Value) (l : List UInt8) (W : World), TyAt (· < B) W v T → Lib.IsBuilderF 72 5 B b (byteCells l) W → B ≤ W.heap.size → Tb W → gpow < B → l.length + (sayT T).length ≤ 140737488355000 →
    Calls Tryd.prog 56 #[.pointer (some ⟨b, 0, none⟩), v] W fun e W' => e = .returned (.tuple #[]) ∧ SB B b W (l ++ sayT T) W'
theorem SB.tb {B b : Nat} {w W : World} {l : List UInt8} (h : SB B b w l W) (hT : Tb w) (hg : gpow < B) : Tb W := hT.keep (h.below.block _ hg)
theorem SB.ty {B b : Nat} {w W : World} {l : List UInt8} (h : SB B b w l W) {v : Value} {T : Ty} (hT : TyAt (· < B) w v T) : TyAt (· < B) W v T := hT.keep fun g hg => ⟨hg, h.below.block g hg⟩

set_option maxHeartbeats 1000000 in
theorem sayIn_s {T : Ty} (HS : SayC T) (B b : Nat) (v : Value) (yes : Bool) (l : List UInt8) (W : World) (hT : TyAt (· < B) W v T) (h : Lib.IsBuilderF 72 5 B b (byteCells l) W) (hB : B ≤ W.heap.size) (htb : Tb W) (hg : gpow < B) (hl : l.length + (wrapB yes (sayT T)).length ≤ 140737488355000) :
    Calls Tryd.prog 85 #[.pointer (some ⟨b, 0, none⟩), v, .bool yes] W fun e W' => e = .returned (.tuple #[]) ∧ SB B b W (l ++ wrapB yes (sayT T)) W' := by
  obtain ⟨A, c, rfl, hc, hm, hn⟩ := hT.form
  obtain ⟨W1, hW1⟩ : ∃ W1, W1 = W.alloc (.cells #[.int .i64 T.kind, .int .i64 T.num, .string T.name, .slice A T.args.length c] 24) := ⟨_, rfl⟩
  have hb1 : Below W.heap.size W W1 := by rw [hW1]; exact (Below.refl _ _).alloc (Nat.le_refl _) _
  have hs1 : SB B b W l W1 := (SB.refl h hB).new hb1
  have HBX : Hid (W1.heap[W.heap.size]? = some (.cells #[.int .i64 T.kind, .int .i64 T.num, .string T.name, .slice A T.args.length c] 24 (0, 0))) := Lib.hid (by rw [hW1]; exact heap_alloc_new _ _)
  have hbn : W.heap.size ≠ b := by have := (SB.refl h hB).blt; omega
  have HSC := Lib.hid HS
  have HT := Lib.hid hT; have HS1 := Lib.hid hs1; have HTB := Lib.hid htb
  clear hT hs1 htb h hc hm hn HS
  unfold tyV
  cases yes
  · have hl' : l.length + (sayT T).length ≤ 140737488355000 := hl
    obtain ⟨y0, y1, y2, y3⟩ := box4 HBX.out
    have HC := Lib.hid (HSC.out B b _ l W1 (HS1.out.ty HT.out) HS1.out.bld HS1.out.le (HS1.out.tb HTB.out hg) hg (by omega))
    unfold tyV at HC
    rw [hW1] at HC y0 y1 y2 y3
    go_enter Tryd.func85, Tryd.ntmps85
    go_wp2_with (go_at_call 56; refine HC.out.mono ?_; rintro e w2 ⟨rfl, H2⟩)
    go_end0
    rw [← hW1] at H2
    exact ⟨rfl, HS1.out.t H2⟩
  · have hl' : l.length + (sayT T).length + 2 ≤ 140737488355000 := by (simp [wrapB] at hl; omega)
    have HW := Lib.hid (writeByte_s B b l 40 40 rfl W1 HS1.out.bld HS1.out.le (by omega))
    rw [hW1] at HW
    go_enter Tryd.func85, Tryd.ntmps85
    go_wp2_with fail
    refine HW.out.mono ?_
    rintro e w2 ⟨rfl, H2⟩
    rw [← hW1] at H2
    have HS2 := Lib.hid (HS1.out.t H2)
    have hbx2 := H2.at HBX.out (by decide) hbn
    obtain ⟨y0, y1, y2, y3⟩ := box4 hbx2
    have HC := Lib.hid (HSC.out B b _ _ w2 (HS2.out.ty HT.out) HS2.out.bld HS2.out.le (HS2.out.tb HTB.out hg) hg (by rw [List.length_append, List.length_singleton]; omega))
    unfold tyV at HC
    clear H2 hbx2
    go_wp2_with fail
    refine HC.out.mono ?_
    rintro e w3 ⟨rfl, H3⟩
    have HS3 := Lib.hid (HS2.out.t H3)
    have HW3 := Lib.hid (writeByte_s B b _ 41 41 rfl w3 HS3.out.bld HS3.out.le (by simp only [List.length_append, List.length_singleton]; omega))
    clear H3
    go_wp2_with fail
    refine HW3.out.mono ?_
    rintro e w4 ⟨rfl, H4⟩
    go_wp2
    go_end0
    refine ⟨rfl, ?_⟩
    have h := HS3.out.t H4
    rw [show l ++ wrapB true (sayT T) = l ++ [40] ++ sayT T ++ [41] from by simp [wrapB]]
    exact h
end Go.Proofs.YtbhicpjhijondaaDoor
