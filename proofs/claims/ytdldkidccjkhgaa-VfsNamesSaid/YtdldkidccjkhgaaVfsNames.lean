/- Proved here: VfsNames returns true, whatever the world (the statement Rows.VfsNamesSaid). No condition. -/
import Derived.Test.YtdldkidccjkhgaaRows
import Derived.WalkKit
import Derived.ProofKit
import Derived.OpenShut
import Derived.ShutString
import Derived.WalkLawsBesides
import Derived.WalkSpells
import Derived.BigQuiet
import Derived.Deep.QuietTactic
import Derived.Lib.Hide
namespace Go.Proofs.Ytdldkidccjkhgaa
open Go.ChangeShapes Go.WideShapes Go.ChangeAt Go.RowKit
open Go.ChangeMaps (open_string shut_string)

def nums : List Int := [10, 11, 12, 13, 20, 30, 31, 40, 50, 51, 52, 60, 61, 62, 70, 71, 120, 130, 131, 140, 150, 170, 200, 210, 220, 221]
def wants : List Int := [32, 65536, 1024, 65536, 64, 32768, 4096, 300, 1073741824, 64, -32700, -32600, -32601, -32602, -32800, -32801, -32802]

/-- two rows of the same numbers lie in the world. -/
def Two (b c : Nat) (zs : List Int) (wr : World) : Prop :=
  ∀ k, k < zs.length → wr.cell? ⟨b, k, none⟩ = some (.int .i64 (zs.getD k 0)) ∧ wr.cell? ⟨c, k, none⟩ = some (.int .i64 (zs.getD k 0))

theorem row_new (w : World) (zs : List Int) (t k : Nat) (h : k < zs.length) :
    (w.alloc (.cells (zs.map (Value.int .i64)).toArray t)).cell? ⟨w.heap.size, k, none⟩ = some (.int .i64 (zs.getD k 0)) := by
  rw [World.cell?_alloc_new]
  simp [h, List.getD_eq_getElem?_getD]

theorem two_new (w : World) (zs : List Int) (t u b : Nat) (c1 c2 : Array Value) (hb : b = w.heap.size) (h1 : c1 = (zs.map (Value.int .i64)).toArray) (h2 : c2 = (zs.map (Value.int .i64)).toArray) :
    Two b (b + 1) zs ((w.alloc (.cells c1 t)).alloc (.cells c2 u)) := by
  subst hb h1 h2
  intro k h
  refine ⟨?_, ?_⟩
  · rw [World.cell?_alloc_lt _ _ _ (by simp)]; exact row_new w zs t k h
  · have := row_new (w.alloc (.cells (zs.map (Value.int .i64)).toArray t)) zs u k h
    simpa using this

theorem new_any (w : World) : Calls Try.prog 4 #[.int .i64 (-1)] w fun e w' => e = .returned (.pointer (some ⟨w.heap.size + 1, 0, none⟩)) ∧
    ((w.alloc (Obj.map #[] 0)).alloc (Obj.cells #[.map (some w.heap.size), .int .i64 (-1)] 31)) = w' := by
  have hmm := @run_makeMap Try.prog
  go_enter Try.func4, Try.ntmps4
  go_wp2
  go_ret
  exact ⟨rfl, rfl⟩

theorem sync_empty (a : Addr) (w : World) : Calls Try.prog 5 #[.pointer (some a), .string ⟨#[]⟩] w fun e w' => e = .returned (.int .i64 10) ∧
    (w.alloc (Obj.cells #[Value.pointer none] 32)) = w' := by
  go_enter Try.func5, Try.ntmps5
  go_wp2
  go_ret
  exact ⟨rfl, rfl⟩

set_option maxHeartbeats 400000 in
theorem walk  (w : World) :
    Calls Try.prog 3 #[] w fun e w' => e = .returned (.bool true) ∧ Below w.heap.size w w' := by
  go_enter Try.func3, Try.ntmps3
  go_wp2_with (first | (go_at_call 4; refine (new_any _).mono ?_; rintro e w' ⟨rfl, rfl⟩) | (go_at_call 5; refine (sync_empty _ _).mono ?_; rintro e w' ⟨rfl, rfl⟩))
  go_loopw [4] (fun i wr => ∃ k : Nat, k ≤ 26 ∧ i = .int .i64 k ∧ Two (w.heap.size + 1 + 1 + 1) (w.heap.size + 1 + 1 + 1 + 1) nums wr ∧ Below w.heap.size w wr) (fun i _ => 26 - (intOf i).toNat)
  case atStart =>
    refine ⟨0, by omega, rfl, ?_, ?_⟩
    · exact two_new _ nums 24 3 _ _ _ (by simp) rfl rfl
    · exact (((((Below.refl _ w).alloc (Nat.le_refl _) _).alloc (by simp) _).alloc (by simp; omega) _).alloc (by simp; omega) _).alloc (by simp; omega) _
  case round =>
    obtain ⟨k, hk, rfl, htwo, hb⟩ := hrel
    by_cases hlt : k < 26
    · obtain ⟨c1, c2⟩ := htwo k hlt
      have H2 := Lib.hid htwo; clear htwo
      go_wp2
      go_quiet (fail)
      go_wp2
      go_roundw
      case rel => exact ⟨k + 1, by omega, by go_num, fun j hj => H2.out j hj, below_drewN hb _⟩
      case measure => simp [intOf]; omega
    · clear htwo
      go_wp2
      go_loopw [7] (fun i wr' => ∃ k : Nat, k ≤ 17 ∧ i = .int .i64 k ∧ Two wr.heap.size (wr.heap.size + 1) wants wr' ∧ Below w.heap.size w wr') (fun i _ => 17 - (intOf i).toNat)
      case atStart =>
        have hz := hb.size
        refine ⟨0, by omega, rfl, ?_, ?_⟩
        · exact two_new _ wants 3 3 _ _ _ (by simp) rfl rfl
        · exact (hb.alloc hz _).alloc (by simp; omega) _
      case round =>
        obtain ⟨m, hm, rfl, htwo, hb'⟩ := hrel
        by_cases hlm : m < 17
        · obtain ⟨c1, c2⟩ := htwo m hlm
          have H2 := Lib.hid htwo; clear htwo
          go_wp2
          go_quiet (fail)
          go_wp2
          go_roundw
          case rel => exact ⟨m + 1, by omega, by go_num, fun j hj => H2.out j hj, below_drewN hb' _⟩
          case measure => simp [intOf]; omega
        · clear htwo
          go_wp2
          go_ret
          exact ⟨rfl, hb'⟩

theorem own : ownKnob Try.prog.godebug = none := by kernel_rfl

set_option maxRecDepth 100000 in
theorem lifted (os : Os) (started : os.Started) (H : Type) (enc : TypeId × Value → H) :
    ReturnsInHanded {} Try.checked os 3 .any (Rows.vfsNamesSpec.pre6 enc Try.prog Try.f3 Rows.vfsNamesRow.domain false) (Rows.vfsNamesSpec.post enc Try.prog Try.f3 false true false false) := by
  refine returnsInHanded_of_change (C := Try.checked) own started (by kernel_rfl) Try.func3
    (ChangeSpec.witness6 (enc := enc) (C := Try.checked) false ⟨#[], #[], []⟩ 8 (by kernel_rfl) (by kernel_rfl) (by kernel_rfl) (by kernel_rfl)) ?_
  intro W base args ds gs before hval0 hW hcnd _
  have hW' := hW
  obtain ⟨p, q, hA0, hV, rfl, hfz, hnd⟩ := hW
  have hA : DataW.TrodAll enc Try.prog W 0 (fun _ => true) true Try.f3.params.toList args.toList ds p := hA0
  rw [Try.params3] at hA
  obtain ⟨rfl, rfl, rfl⟩ := trodAll_none hA
  obtain ⟨rfl, rfl⟩ := trodVars_none hV
  clear hA0 hval0
  refine (walk W).mono fun e W' ⟨he, bel⟩ => ?_
  subst he
  exact ⟨_, rfl, _, _, _, [], [], [], hW', trodAll_mk1 (shut_bool Try.underlying4 _), trodAll_mk0, rfl, bel.frame _, fun h => by cases h⟩

theorem over : Rows.vfsNamesRow.holds Try.pinned (OpenSpec.ofChange Rows.vfsNamesSpec) :=
  OpenClaim.holds_of_wide 3 Try.f3 rfl rfl rfl rfl rfl rfl rfl ⟨rfl, rfl, rfl, rfl, rfl⟩ rfl rfl rfl rfl rfl (by kernel_rfl) Try.func3 (by kernel_rfl)
    (of_decide_eq_true (by kernel_rfl)) (by unfold Func.isWrapper; first | (rw [if_pos (by decide +kernel)]; kernel_rfl) | (rw [if_neg (by decide +kernel)]; exact ⟨rfl, rfl⟩))
    (fun os started H enc _ => lifted os started H enc)

theorem vfsNames_holds : Rows.VfsNamesSaid := over
#print axioms vfsNames_holds
end Go.Proofs.Ytdldkidccjkhgaa
