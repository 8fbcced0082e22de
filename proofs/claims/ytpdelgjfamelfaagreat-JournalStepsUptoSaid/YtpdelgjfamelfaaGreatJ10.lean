/- The journal's state; Log, Sync. -/
import Derived.Test.YtpdelgjfamelfaaGreatJ9
namespace Go.Proofs.YtpdelgjfamelfaaGreat
open Go.RowKit Go.Lib Go.Vfs Go.Par Go.Shelf
set_option linter.unusedVariables false
set_option linter.unusedSimpArgs false

/-- a journal's records in memory. -/
def JS (w : World) (pj p gen : Nat) (base log : List (List UInt8)) (G : Nat → Prop) : Prop := ∃ bv lv bs us, JV w pj p gen bv lv bs us base log G
/-- a journal with its files. -/
structure JF (w : World) (pj p : Nat) (st : St) (gen : Nat) (base log : List (List UInt8)) (F G : Nat → Prop) : Prop where
  fs : Fsy w p st F
  js : JS w pj p gen base log G
  apart : ∀ k, G k → ¬ F k
theorem JS.lt {w : World} {pj p gen : Nat} {base log : List (List UInt8)} {G : Nat → Prop} (h : JS w pj p gen base log G) : ∀ k, G k → k < w.heap.size := by
  obtain ⟨bv, lv, bs, us, h⟩ := h
  exact h.lt
theorem JS.block {w w' : World} {pj p gen : Nat} {base log : List (List UInt8)} {G : Nat → Prop} (h : JS w pj p gen base log G) (hk : ∀ k, G k → w'.heap[k]? = w.heap[k]?) : JS w' pj p gen base log G := by
  obtain ⟨bv, lv, bs, us, h⟩ := h
  exact ⟨bv, lv, bs, us, h.block hk⟩
theorem JF.below {w w' : World} {pj p : Nat} {st : St} {gen : Nat} {base log : List (List UInt8)} {F G : Nat → Prop} (h : JF w pj p st gen base log F G) (hb : Below w.heap.size w w') : JF w' pj p st gen base log F G :=
  ⟨h.fs.keep fun k hk => hb.block k (h.fs.lt k hk), h.js.block fun k hk => hb.block k (h.js.lt k hk), h.apart⟩
/-- what a call of a journal leaves. -/
def JPost (w : World) (pj p : Nat) (F G : Nat → Prop) (st : St) (gen : Nat) (base log : List (List UInt8)) (w' : World) : Prop :=
  ∃ F' G', JF w' pj p st gen base log F' G' ∧ Kept (fun k => F k ∨ G k) w w' ∧ Grows w F F' ∧ Grows w G G'
theorem JPost.same {w w' : World} {pj p : Nat} {st : St} {gen : Nat} {base log : List (List UInt8)} {F G : Nat → Prop} (h : JF w pj p st gen base log F G) (hb : Below w.heap.size w w') : JPost w pj p F G st gen base log w' :=
  ⟨F, G, h.below hb, Kept.of_below hb, Grows.refl _ _, Grows.refl _ _⟩
/-- behind a call of the files alone. -/
theorem JPost.files {w w1 w' : World} {pj p : Nat} {st st' : St} {gen : Nat} {base log : List (List UInt8)} {F F' G : Nat → Prop} (h : JF w pj p st gen base log F G) (hb : Below w.heap.size w w1) (hf : Fsy w' p st' F') (hk : Kept F w1 w') (hg : Grows w1 F F') : JPost w pj p F G st' gen base log w' := by
  refine ⟨F', G, ⟨hf, h.js.block fun k hk2 => ?_, fun k hk2 hf2 => ?_⟩, ?_, fun k hk2 => (hg k hk2).imp id (fun h2 => by have := hb.size; omega), Grows.refl _ _⟩
  · have := h.js.lt k hk2
    have := hb.size
    exact (hk.block k (by omega) (h.apart k hk2)).trans (hb.block k (h.js.lt k hk2))
  · have := h.js.lt k hk2
    have := hb.size
    rcases hg k hf2 with h2 | h2
    · exact h.apart k hk2 h2
    · omega
  · exact ((Kept.of_below (F := F) hb).trans hk (Grows.refl _ _)).mono fun k _ hk2 => .inl hk2

set_option maxRecDepth 20000 in
set_option maxHeartbeats 2000000 in
theorem jlog_any {w : World} {pj p : Nat} {st : St} {gen : Nat} {base log : List (List UInt8)} {F G : Nat → Prop} (h : JF w pj p st gen base log F G) :
    Calls Tryz.prog 20 #[.pointer (some ⟨pj, 0, none⟩)] w fun e w' => e = .returned (.int .i64 (log.length : Nat)) ∧ ∃ n, w' = w.drewN n := by
  obtain ⟨-, ⟨bv, lv, bs, us, hj⟩, -⟩ := h
  obtain ⟨⟨c0, c1, c2, c3⟩, -⟩ := hj.cells
  obtain ⟨A, c, e⟩ := Own.formR hj.lown
  rw [e] at c3
  clear hj
  go_enter Tryz.func20, Tryz.ntmps20
  go_wp2
  go_ret
  exact ⟨rfl, 0, rfl⟩

/-- Journal.Sync. -/
def jSync (st : St) : St × Int := if hasF st.files [108, 111, 103] then stSync st [108, 111, 103] else (st, 0)
set_option maxRecDepth 20000 in
set_option maxHeartbeats 2000000 in
theorem jsync_any {w : World} {pj p : Nat} {st : St} {gen : Nat} {base log : List (List UInt8)} {F G : Nat → Prop} (h : JF w pj p st gen base log F G) (hfl : st.files.length ≤ 100000) (hnl : ∀ f ∈ st.files, f.name.length ≤ 100000) (hpw : st.power ≤ 9223372036854775807) :
    Calls Tryz.prog 27 #[.pointer (some ⟨pj, 0, none⟩)] w fun e w' => e = .returned (.int .i64 (jSync st).2) ∧ JPost w pj p F G (jSync st).1 gen base log w' := by
  have HH := Lib.hid h
  obtain ⟨hf, ⟨bv, lv, bs, us, hj⟩, -⟩ := h
  obtain ⟨⟨c0, c1, c2, c3⟩, -⟩ := hj.cells
  have HJ := Lib.hid hj
  have HHAS := Lib.hid (has_any w p st F hf hfl hnl [108, 111, 103])
  clear hf hj c1 c2 c3 hfl hnl
  go_enter Tryz.func27, Tryz.ntmps27
  go_wp2_with fail
  refine HHAS.out.mono ?_
  rintro e w1 ⟨rfl, hb1⟩
  obtain ⟨⟨d0, -⟩, -⟩ := (HJ.out.go hb1).cells
  have HB := Lib.hid hb1
  clear hb1
  cases hh : hasF st.files [108, 111, 103]
  · have ee : Hid (jSync st = (st, 0)) := Lib.hid (by unfold jSync; rw [hh]; rfl)
    go_wp2
    go_ret
    rw [ee.out]
    exact ⟨rfl, JPost.same HH.out HB.out⟩
  · have ee : Hid (jSync st = stSync st [108, 111, 103]) := Lib.hid (by unfold jSync; rw [hh]; rfl)
    go_wp2_with fail
    refine (sync_any w1 p st F (HH.out.below HB.out).fs ⟨#[108, 111, 103]⟩ (by decide) hpw).mono ?_
    rintro e w2 ⟨F', rfl, h1, h2, h3⟩
    rw [← ee.out] at h1 ⊢
    have H1 := Lib.hid h1; have H2 := Lib.hid h2; have H3 := Lib.hid h3
    clear h1 h2 h3
    go_wp2
    go_ret
    exact ⟨rfl, JPost.files HH.out HB.out H1.out H2.out H3.out⟩
end Go.Proofs.YtpdelgjfamelfaaGreat
