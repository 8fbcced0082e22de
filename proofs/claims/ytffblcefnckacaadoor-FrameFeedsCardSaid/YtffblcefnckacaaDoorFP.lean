/- Plain: what the first rune of bytes is that begin with no ASCII. -/
import Derived.Lib.MapLaws
import Derived.Lib.Index
import GoSem.Core.Utf8
namespace Go.Frm
open Go.Lib
set_option linter.unusedVariables false
set_option linter.unusedSimpArgs false

def crlf (c : UInt8) : Bool := c == 13 || c == 10
theorem crlf_nat (c : UInt8) : crlf c = decide (c.toNat = 13 ∨ c.toNat = 10) := by
  unfold crlf
  rw [Bool.eq_iff_iff, Bool.or_eq_true, beq_iff_eq, beq_iff_eq, decide_eq_true_iff, ← UInt8.toNat_inj, ← UInt8.toNat_inj]
  rfl
theorem crlf_high {c : UInt8} (h : 128 ≤ c.toNat) : crlf c = false := by
  rw [crlf_nat]; exact decide_eq_false (by omega)
theorem dec_high {l : List UInt8} (hne : l ≠ []) (h : 128 ≤ (l.getD 0 0).toNat) :
    128 ≤ (decodeL l).1 ∧ (decodeL l).1 ≤ 1114111 ∧ 1 ≤ (decodeL l).2 ∧ (decodeL l).2 ≤ l.length ∧ (l.take (decodeL l).2).any crlf = false ∧ ((decodeL l).1 ≠ 65533 → encodeRune ((decodeL l).1 : Int) = l.take (decodeL l).2 ∧ 2 ≤ (decodeL l).2) := by
  have hl : 0 < l.length := List.length_pos_iff.2 hne
  have hle := decodeL_le l hne
  have h1 := decodeL_width l
  have hr := decodeL_rune l
  have henc : (decodeL l).1 ≠ 65533 → encodeRune ((decodeL l).1 : Int) = l.take (decodeL l).2 := fun hn => encode_decode l hne (by rintro ⟨e, -⟩; exact hn e)
  have c0 := crlf_high h
  have hge : 128 ≤ (decodeL l).1 ∧ (l.take (decodeL l).2).any crlf = false ∧ ((decodeL l).1 ≠ 65533 → 2 ≤ (decodeL l).2) := by
    rw [decodeL_N] at hle ⊢
    rcases decodeN_shape l.length (l.getD 0 0).toNat (l.getD 1 0).toNat (l.getD 2 0).toNat (l.getD 3 0).toNat with ⟨k1, e⟩ | ⟨k1, k2, k3, kv, e⟩ | ⟨k1, k2, k3, k4, kv, ks, e⟩ | ⟨k1, k2, k3, k4, k5, kv, kw, e⟩ | e
    · omega
    · rw [e] at hle ⊢
      have c1 := crlf_high (c := l.getD 1 0) (by omega)
      refine ⟨by dsimp only; omega, ?_, fun _ => Nat.le_refl _⟩
      dsimp only
      rw [takeB l (by omega)]
      simp only [List.any_cons, List.any_nil, c0, c1, Bool.or_self]
    · rw [e] at hle ⊢
      have c1 := crlf_high (c := l.getD 1 0) (by omega)
      have c2 := crlf_high (c := l.getD 2 0) (by omega)
      refine ⟨by dsimp only; omega, ?_, fun _ => by dsimp only; omega⟩
      dsimp only
      rw [takeC l (by omega)]
      simp only [List.any_cons, List.any_nil, c0, c1, c2, Bool.or_self]
    · rw [e] at hle ⊢
      have c1 := crlf_high (c := l.getD 1 0) (by omega)
      have c2 := crlf_high (c := l.getD 2 0) (by omega)
      have c3 := crlf_high (c := l.getD 3 0) (by omega)
      refine ⟨by dsimp only; omega, ?_, fun _ => by dsimp only; omega⟩
      dsimp only
      rw [takeD l (by omega)]
      simp only [List.any_cons, List.any_nil, c0, c1, c2, c3, Bool.or_self]
    · rw [e] at hle ⊢
      refine ⟨by dsimp only; omega, ?_, fun hn => absurd rfl hn⟩
      dsimp only
      rw [takeA l (by omega)]
      simp only [List.any_cons, List.any_nil, c0, Bool.or_self]
  exact ⟨hge.1, hr, h1, hle, hge.2.1, fun hn => ⟨henc hn, hge.2.2 hn⟩⟩
theorem any_step {l : List UInt8} {k j : Nat} (h : (l.take k).any crlf = false) (h2 : ((l.drop k).take j).any crlf = false) : (l.take (k + j)).any crlf = false := by
  rw [List.take_add, List.any_append, h, h2]; rfl
theorem any_one {l : List UInt8} {k : Nat} (hk : k < l.length) (h : (l.take k).any crlf = false) (h2 : crlf (l.getD k 0) = false) : (l.take (k + 1)).any crlf = false := by
  rw [List.take_succ_eq_append_getElem hk, List.any_append, h]
  rw [List.getD_eq_getElem?_getD, List.getElem?_eq_getElem hk] at h2
  simpa using h2
theorem any_hit {l : List UInt8} {k : Nat} (hk : k < l.length) (h2 : crlf (l.getD k 0) = true) : l.any crlf = true := by
  rw [List.any_eq_true]
  rw [List.getD_eq_getElem?_getD, List.getElem?_eq_getElem hk] at h2
  exact ⟨_, List.getElem_mem hk, by simpa using h2⟩
/-- a string that begins with no ASCII isn't the set, nor in it. -/
theorem set_ne {l : List UInt8} (hne : l ≠ []) (h : 128 ≤ (l.getD 0 0).toNat) (k : Nat) (hk : 1 ≤ k) : l.take k ≠ [13, 10] ∧ index [13, 10] (l.take k) = -1 := by
  cases l with
  | nil => exact absurd rfl hne
  | cons x l =>
    obtain ⟨j, rfl⟩ : ∃ j, k = j + 1 := ⟨k - 1, by omega⟩
    have hx : 128 ≤ x.toNat := h
    have n13 : ((x == 13) = false) := by rw [beq_eq_false_iff_ne]; rintro rfl; exact absurd hx (by decide)
    have n10 : ((x == 10) = false) := by rw [beq_eq_false_iff_ne]; rintro rfl; exact absurd hx (by decide)
    refine ⟨?_, ?_⟩
    · rw [List.take_succ_cons]; intro e; injection e with e; rw [e] at hx; exact absurd hx (by decide)
    · rw [List.take_succ_cons]
      simp [index, List.isPrefixOf, n13, n10]
theorem valid_of {n : Nat} (h : n < 55296 ∨ (57344 ≤ n ∧ n ≤ 1114111)) : Utf8.valid (n : Int) = true := by
  unfold Utf8.valid
  rw [Bool.or_eq_true, Bool.and_eq_true, Bool.and_eq_true, decide_eq_true_iff, decide_eq_true_iff, decide_eq_true_iff, decide_eq_true_iff]
  omega
theorem enc_size {n : Nat} (h : Utf8.valid (n : Int) = true) (h1 : 128 ≤ n) : (Utf8.encode (n : Int)).size = if n < 2048 then 2 else if n < 65536 then 3 else 4 := by
  unfold Utf8.encode
  simp only [h, if_true, Int.toNat_natCast]
  rw [if_neg (by omega)]
  split
  · rfl
  · split <;> rfl
theorem dec_enc {l : List UInt8} (hne : l ≠ []) (h : 128 ≤ (l.getD 0 0).toNat) (hn : (decodeL l).1 ≠ 65533) :
    (Utf8.encode ((decodeL l).1 : Int)).size = (decodeL l).2 ∧ Utf8.valid ((decodeL l).1 : Int) = true ∧ 2 ≤ (decodeL l).2 := by
  rw [decodeL_N] at hn ⊢
  have b1 := (l.getD 1 0).toNat_lt
  have b2 := (l.getD 2 0).toNat_lt
  have b3 := (l.getD 3 0).toNat_lt
  rcases decodeN_shape l.length (l.getD 0 0).toNat (l.getD 1 0).toNat (l.getD 2 0).toNat (l.getD 3 0).toNat with ⟨k1, e⟩ | ⟨k1, k2, k3, kv, e⟩ | ⟨k1, k2, k3, k4, kv, ks, e⟩ | ⟨k1, k2, k3, k4, k5, kv, kw, e⟩ | e
  · omega
  · rw [e]; dsimp only
    have hv := valid_of (n := (l.getD 0 0).toNat % 32 * 64 + (l.getD 1 0).toNat % 64) (by omega)
    exact ⟨by rw [enc_size hv kv, if_pos (by omega)], hv, Nat.le_refl _⟩
  · rw [e]; dsimp only
    have hv := valid_of (n := (l.getD 0 0).toNat % 16 * 4096 + (l.getD 1 0).toNat % 64 * 64 + (l.getD 2 0).toNat % 64) (by omega)
    exact ⟨by rw [enc_size hv (by omega), if_neg (by omega), if_pos (by omega)], hv, by omega⟩
  · rw [e]; dsimp only
    have hv := valid_of (n := (l.getD 0 0).toNat % 8 * 262144 + (l.getD 1 0).toNat % 64 * 4096 + (l.getD 2 0).toNat % 64 * 64 + (l.getD 3 0).toNat % 64) (by omega)
    exact ⟨by rw [enc_size hv (by omega), if_neg (by omega), if_neg (by omega)], hv, by omega⟩
  · rw [e] at hn; exact absurd rfl hn
/-- a rune's string isn't the set, nor does it stand in it. -/
theorem enc_set {n : Nat} (h : Utf8.valid (n : Int) = true) (h1 : 128 ≤ n) : Utf8.encode (n : Int) ≠ ⟨#[13, 10]⟩ ∧ index [13, 10] (Utf8.encode (n : Int)).data.toList = -1 := by
  have key : ∃ x t, (Utf8.encode (n : Int)).data.toList = x :: t ∧ 128 ≤ x.toNat := by
    unfold Utf8.encode
    have hle : n ≤ 1114111 := by
      unfold Utf8.valid at h
      rw [Bool.or_eq_true, Bool.and_eq_true, Bool.and_eq_true, decide_eq_true_iff, decide_eq_true_iff, decide_eq_true_iff, decide_eq_true_iff] at h
      omega
    simp only [h, if_true, Int.toNat_natCast]
    rw [if_neg (by omega)]
    split
    · exact ⟨_, _, rfl, by simp; omega⟩
    · split
      · exact ⟨_, _, rfl, by simp; omega⟩
      · exact ⟨_, _, rfl, by simp; omega⟩
  obtain ⟨x, t, e, hx⟩ := key
  have hs := set_ne (l := x :: t) (by simp) hx (t.length + 1) (by omega)
  rw [List.take_of_length_le (by simp)] at hs
  rw [← e] at hs
  exact ⟨fun he => by apply hs.1; rw [he], hs.2⟩
end Go.Frm
