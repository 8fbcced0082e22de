/-
  NARROWER THAN 'FOR EVERY INPUT', by the rows' own cells (each row's printed sentence says how): IndexMemory: loops · IndexPrefix: loops · IndexCompacts: loops · IndexSteps: loops.
  DERIVED. THE GIVEN ROWS OF THIS SEAT. 5 by the template 'for every input the law returns true; each argument reads behind the call as it read before'; 0 by the template 'total and deterministic' (their statements: YtaalbcfpacpgfaaGreatTotals.lean).
  GIVEN WITH THE SEED: the statements are not yours to turn. If you find one false, say at which input.
  Laid BY PROGRAM, IN A SANDBOX (cutbox-rows.mjs): the forced cells as the released guide's own fill.sh prints them over the translation 32ac369c07f36faa… (all of the seat's roots in one cut). By AI agents, Wed Nov 11 2026. No macro, syntax, notation, axiom, sorry.
-/
import Derived.Test.YtaalbcfpacpgfaaGreatChecked
import GoSem.Claim
import GoSem.ClaimJoined
import GoSem.ClaimMapViews
import Derived.JoinedTies
import Derived.KernelRfl
namespace Go.Proofs.YtaalbcfpacpgfaaGreat
/- THE CELL 'sum', in the pinned program and in every row, IS THE sha256 OF THE DUMP (.gsa) THAT YtaalbcfpacpgfaaGreatProg.lean LOADS. Nothing in Lean hashes anything: it is a label: what it is worth is what the hold of that sum in a sandbox is worth. -/
noncomputable def Tryz.pinned : Pinned := { name := "ytaalbcfpacpgfaagreat", sum := "32ac369c07f36faaa46341754ba4e7a095d78e22bcb30bfbea575f93f8404c73", checked := Tryz.checked }
namespace Rows
def none {H : Type} : Left H := { results := [], args := [] }

/-- 'parlancelaw20.IndexOpens': WHATEVER THE INPUT: true; the input reads as it did. -/
def indexOpensSpec : ChangeSpec := { name := "indexOpens", fn := fun _ => fun
  | [d] => { results := [.lit (.bool true)], args := [d] }
  | _ => none }
def indexOpensRow : OpenClaim := { program := "ytaalbcfpacpgfaagreat", sum := "32ac369c07f36faaa46341754ba4e7a095d78e22bcb30bfbea575f93f8404c73", func := "parlance/parlancelaw20.IndexOpens", spec := "indexOpens", unfollowed := true, recurses := true, apart := false }
def IndexOpensSaid : Prop := indexOpensRow.holds Tryz.pinned (OpenSpec.ofChange indexOpensSpec)

/-- ITS FALSE NEIGHBOUR: 'it returns false'. Refute it at one input. -/
def indexOpensWrong : ChangeSpec := { name := "indexOpens", fn := fun _ => fun
  | [d] => { results := [.lit (.bool false)], args := [d] }
  | _ => none }
def IndexOpensWrongFalsely : Prop := indexOpensRow.holds Tryz.pinned (OpenSpec.ofChange indexOpensWrong)

/-- 'parlancelaw20.IndexMemory': WHATEVER THE INPUT: true; the input reads as it did. -/
def indexMemorySpec : ChangeSpec := { name := "indexMemory", fn := fun _ => fun
  | [d] => { results := [.lit (.bool true)], args := [d] }
  | _ => none }
def indexMemoryRow : OpenClaim := { program := "ytaalbcfpacpgfaagreat", sum := "32ac369c07f36faaa46341754ba4e7a095d78e22bcb30bfbea575f93f8404c73", func := "parlance/parlancelaw20.IndexMemory", spec := "indexMemory", unfollowed := true, recurses := true, loops := true, apart := false }
def IndexMemorySaid : Prop := indexMemoryRow.holds Tryz.pinned (OpenSpec.ofChange indexMemorySpec)

/-- ITS FALSE NEIGHBOUR: 'it returns false'. Refute it at one input. -/
def indexMemoryWrong : ChangeSpec := { name := "indexMemory", fn := fun _ => fun
  | [d] => { results := [.lit (.bool false)], args := [d] }
  | _ => none }
def IndexMemoryWrongFalsely : Prop := indexMemoryRow.holds Tryz.pinned (OpenSpec.ofChange indexMemoryWrong)

/-- 'parlancelaw20.IndexPrefix': WHATEVER THE INPUT: true; the input reads as it did. -/
def indexPrefixSpec : ChangeSpec := { name := "indexPrefix", fn := fun _ => fun
  | [d1, d2, d3, d4, d5] => { results := [.lit (.bool true)], args := [d1, d2, d3, d4, d5] }
  | _ => none }
def indexPrefixRow : OpenClaim := { program := "ytaalbcfpacpgfaagreat", sum := "32ac369c07f36faaa46341754ba4e7a095d78e22bcb30bfbea575f93f8404c73", func := "parlance/parlancelaw20.IndexPrefix", spec := "indexPrefix", unfollowed := true, recurses := true, loops := true, apart := false }
def IndexPrefixSaid : Prop := indexPrefixRow.holds Tryz.pinned (OpenSpec.ofChange indexPrefixSpec)

/-- ITS FALSE NEIGHBOUR: 'it returns false'. Refute it at one input. -/
def indexPrefixWrong : ChangeSpec := { name := "indexPrefix", fn := fun _ => fun
  | [d1, d2, d3, d4, d5] => { results := [.lit (.bool false)], args := [d1, d2, d3, d4, d5] }
  | _ => none }
def IndexPrefixWrongFalsely : Prop := indexPrefixRow.holds Tryz.pinned (OpenSpec.ofChange indexPrefixWrong)

/-- 'parlancelaw20.IndexCompacts': WHATEVER THE INPUT: true; the input reads as it did. -/
def indexCompactsSpec : ChangeSpec := { name := "indexCompacts", fn := fun _ => fun
  | [d1, d2] => { results := [.lit (.bool true)], args := [d1, d2] }
  | _ => none }
def indexCompactsRow : OpenClaim := { program := "ytaalbcfpacpgfaagreat", sum := "32ac369c07f36faaa46341754ba4e7a095d78e22bcb30bfbea575f93f8404c73", func := "parlance/parlancelaw20.IndexCompacts", spec := "indexCompacts", unfollowed := true, recurses := true, loops := true, apart := false }
def IndexCompactsSaid : Prop := indexCompactsRow.holds Tryz.pinned (OpenSpec.ofChange indexCompactsSpec)

/-- ITS FALSE NEIGHBOUR: 'it returns false'. Refute it at one input. -/
def indexCompactsWrong : ChangeSpec := { name := "indexCompacts", fn := fun _ => fun
  | [d1, d2] => { results := [.lit (.bool false)], args := [d1, d2] }
  | _ => none }
def IndexCompactsWrongFalsely : Prop := indexCompactsRow.holds Tryz.pinned (OpenSpec.ofChange indexCompactsWrong)

/-- 'parlancelaw20.IndexSteps': WHATEVER THE INPUT: true; the input reads as it did. -/
def indexStepsSpec : ChangeSpec := { name := "indexSteps", fn := fun _ => fun
  | [d1, d2] => { results := [.lit (.bool true)], args := [d1, d2] }
  | _ => none }
def indexStepsRow : OpenClaim := { program := "ytaalbcfpacpgfaagreat", sum := "32ac369c07f36faaa46341754ba4e7a095d78e22bcb30bfbea575f93f8404c73", func := "parlance/parlancelaw20.IndexSteps", spec := "indexSteps", unfollowed := true, recurses := true, loops := true, apart := false }
def IndexStepsSaid : Prop := indexStepsRow.holds Tryz.pinned (OpenSpec.ofChange indexStepsSpec)

/-- ITS FALSE NEIGHBOUR: 'it returns false'. Refute it at one input. -/
def indexStepsWrong : ChangeSpec := { name := "indexSteps", fn := fun _ => fun
  | [d1, d2] => { results := [.lit (.bool false)], args := [d1, d2] }
  | _ => none }
def IndexStepsWrongFalsely : Prop := indexStepsRow.holds Tryz.pinned (OpenSpec.ofChange indexStepsWrong)

/- THE SECOND FORM. 'bulk': how many values and letters a reading holds, each counted each time it is reached (what is shared counts as often as it is met; a slice's spare places count too). A statement '..UptoSaid' is the law's where the arguments, and the package variables that the reading takes, are together of bulk at most 1048576: NARROWER than '..Said'. Prove '..Said' where nothing that the law and all that it calls make is longer than what came in: it says more and counts as full. Else prove '..UptoSaid'. A law counts once. -/
mutual
def uptoBulk {H : Type} : DataW H → Nat
  | .lit (.string bytes) => bytes.length + 1
  | .lit _ => 1
  | .nil => 1
  | .ptr d => uptoBulk d + 1
  | .slice elems spare => uptoBulkAll elems + uptoBulkAll spare + 1
  | .agg parts => uptoBulkAll parts + 1
  | .iface _ d => uptoBulk d + 1
  | .map entries => uptoBulkEntries entries + 1
  | .held _ => 1
def uptoBulkAll {H : Type} : List (DataW H) → Nat
  | [] => 0
  | d :: r => uptoBulk d + uptoBulkAll r
def uptoBulkEntries {H : Type} : List (Lit × DataW H) → Nat
  | [] => 0
  | x :: r => uptoBulkEntry x + uptoBulkEntries r
def uptoBulkEntry {H : Type} : Lit × DataW H → Nat
  | (.string bytes, d) => bytes.length + uptoBulk d + 1
  | (_, d) => uptoBulk d + 1
 end
def uptoSmall : (H : Type) → List (DataW H) → Bool := fun _ ds => decide (uptoBulkAll ds ≤ 1048576)
def OpenSpec.upto (s : _root_.Go.ChangeSpec) : _root_.Go.OpenSpec := { _root_.Go.OpenSpec.ofChange s with cond := some uptoSmall }

/-- 'parlancelaw20.IndexOpens', WHERE WHAT IT READS IS OF BULK AT MOST 1048576: true; the input reads as it did. -/
def indexOpensUptoRow : OpenClaim := { program := "ytaalbcfpacpgfaagreat", sum := "32ac369c07f36faaa46341754ba4e7a095d78e22bcb30bfbea575f93f8404c73", func := "parlance/parlancelaw20.IndexOpens", spec := "indexOpens", unfollowed := true, recurses := true, apart := false, narrowed := true }
def IndexOpensUptoSaid : Prop := indexOpensUptoRow.holds Tryz.pinned (OpenSpec.upto indexOpensSpec)

/-- 'parlancelaw20.IndexMemory', WHERE WHAT IT READS IS OF BULK AT MOST 1048576: true; the input reads as it did. -/
def indexMemoryUptoRow : OpenClaim := { program := "ytaalbcfpacpgfaagreat", sum := "32ac369c07f36faaa46341754ba4e7a095d78e22bcb30bfbea575f93f8404c73", func := "parlance/parlancelaw20.IndexMemory", spec := "indexMemory", unfollowed := true, recurses := true, loops := true, apart := false, narrowed := true }
def IndexMemoryUptoSaid : Prop := indexMemoryUptoRow.holds Tryz.pinned (OpenSpec.upto indexMemorySpec)

/-- 'parlancelaw20.IndexPrefix', WHERE WHAT IT READS IS OF BULK AT MOST 1048576: true; the input reads as it did. -/
def indexPrefixUptoRow : OpenClaim := { program := "ytaalbcfpacpgfaagreat", sum := "32ac369c07f36faaa46341754ba4e7a095d78e22bcb30bfbea575f93f8404c73", func := "parlance/parlancelaw20.IndexPrefix", spec := "indexPrefix", unfollowed := true, recurses := true, loops := true, apart := false, narrowed := true }
def IndexPrefixUptoSaid : Prop := indexPrefixUptoRow.holds Tryz.pinned (OpenSpec.upto indexPrefixSpec)

/-- 'parlancelaw20.IndexCompacts', WHERE WHAT IT READS IS OF BULK AT MOST 1048576: true; the input reads as it did. -/
def indexCompactsUptoRow : OpenClaim := { program := "ytaalbcfpacpgfaagreat", sum := "32ac369c07f36faaa46341754ba4e7a095d78e22bcb30bfbea575f93f8404c73", func := "parlance/parlancelaw20.IndexCompacts", spec := "indexCompacts", unfollowed := true, recurses := true, loops := true, apart := false, narrowed := true }
def IndexCompactsUptoSaid : Prop := indexCompactsUptoRow.holds Tryz.pinned (OpenSpec.upto indexCompactsSpec)

/-- 'parlancelaw20.IndexSteps', WHERE WHAT IT READS IS OF BULK AT MOST 1048576: true; the input reads as it did. -/
def indexStepsUptoRow : OpenClaim := { program := "ytaalbcfpacpgfaagreat", sum := "32ac369c07f36faaa46341754ba4e7a095d78e22bcb30bfbea575f93f8404c73", func := "parlance/parlancelaw20.IndexSteps", spec := "indexSteps", unfollowed := true, recurses := true, loops := true, apart := false, narrowed := true }
def IndexStepsUptoSaid : Prop := indexStepsUptoRow.holds Tryz.pinned (OpenSpec.upto indexStepsSpec)

end Rows
end Go.Proofs.YtaalbcfpacpgfaaGreat
