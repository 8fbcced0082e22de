import Derived.Test.YtpdelgjfamelfaaV20
namespace Go.Proofs.Ytpdelgjfamelfaa
open Go.RowKit Go.Lib Go.Vfs Go.Par
set_option linter.unusedVariables false

theorem SegO.take {w : World} {B : Nat} {A : Option Addr} {n c : Nat} {os : List OpR} (h : SegO w B (.slice A n c) os) (k : Nat) (hk : k ≤ os.length) : SegO w B (.slice A k c) (os.take k) := by
  obtain ⟨A', c', e, h2, h3, h4, h5⟩ := h
  injection e with e1 e2 e3
  subst e1 e3
  have hl : (os.take k).length = k := by simp; omega
  refine ⟨A, c, by rw [hl], by omega, h3, fun o ho => h4 o (List.mem_of_mem_take ho), fun i hi => ?_⟩
  rw [hl] at hi
  obtain ⟨b, off, e, hb, hc⟩ := h5 i (by omega)
  exact ⟨b, off, e, hb, fun j hj => by rw [hc j hj, List.getElem_take]⟩

theorem slice_ops (A : Option Addr) (n c N : Nat) (w : World) (h : N ≤ c) : (Instr.slice 36 (.slice A n c) none (some (.int .i64 (N : Int))) none).run Try.prog w = .ok (.slice A N c) w := by
  have ht' : Try.prog.underlying 36 = some (.slice (Try.prog.elem 36)) := by simp [Program.elem, Try.underlying36]
  have he : Try.prog.elem 36 = 44 := by simp [Program.elem, Try.underlying36]
  rw [run_slice_h w 36 _ _ _ ht' .i64 _ (by omega) (by omega), he, Try.sizeOf44]
  simp only [Result.andThen, sliced]
  cases A <;> simp [Addr.add]

set_option maxHeartbeats 400000 in
theorem cut_any (v : Value) (os : List OpR) (B : Nat) (w : World) (h : SegO w B v os) :
    Calls Try.prog 22 #[v] w fun e w' => ∃ u, e = .returned u ∧ SegO w B u (os.take 60) ∧ w' = w := by
  have h0 := h
  obtain ⟨A, c, rfl, h2, h3, -, -⟩ := h
  have H := Lib.hid h0; clear h0
  by_cases hl : (os.length : Int) > 60
  · have hs := slice_ops A os.length c 60 w (by omega)
    go_enter Try.func22, Try.ntmps22
    go_wp2
    go_ret
    exact ⟨_, rfl, H.out.take 60 (by omega), rfl⟩
  · go_enter Try.func22, Try.ntmps22
    go_wp2
    go_ret
    refine ⟨_, rfl, ?_, rfl⟩
    rw [List.take_of_length_le (by omega)]
    exact H.out
end Go.Proofs.Ytpdelgjfamelfaa
