/-
  No cell of these rows narrows 'for every input' (looked for: loops, veiled, ifaces, maps, wideKeys, modest, calm, conditions, laid).
  DERIVED. THE GIVEN ROWS OF THIS SEAT. 11 by the template 'for every input the law returns true; each argument reads behind the call as it read before'; 0 by the template 'total and deterministic' (their statements: YtpdelgjfamelfaaTotals.lean).
  GIVEN WITH THE SEED: the statements are not yours to turn. If you find one false, say at which input.
  Laid BY PROGRAM, IN A SANDBOX (cutbox-rows.mjs): the forced cells as the released guide's own fill.sh prints them over the translation 0f3f87d128e8edf5… (all of the seat's roots in one cut). By AI agents, Wed Nov 11 2026. No macro, syntax, notation, axiom, sorry.
-/
import Derived.Test.YtpdelgjfamelfaaChecked
import GoSem.Claim
import GoSem.ClaimJoined
import GoSem.ClaimMapViews
import Derived.JoinedTies
import Derived.KernelRfl
namespace Go.Proofs.Ytpdelgjfamelfaa
/- THE CELL 'sum', in the pinned program and in every row, IS THE sha256 OF THE DUMP (.gsa) THAT YtpdelgjfamelfaaProg.lean LOADS. Nothing in Lean hashes anything: it is a label: what it is worth is what the hold of that sum in a sandbox is worth. -/
noncomputable def Try.pinned : Pinned := { name := "ytpdelgjfamelfaa", sum := "0f3f87d128e8edf5157a4875441c8fb00cbb9989bb0f3ff0681bde57f56cd348", checked := Try.checked }
namespace Rows
def none {H : Type} : Left H := { results := [], args := [] }

/-- 'parlancelaw01.VfsMemory': WHATEVER THE INPUT: true; the input reads as it did. -/
def vfsMemorySpec : ChangeSpec := { name := "vfsMemory", fn := fun _ => fun
  | [d1, d2] => { results := [.lit (.bool true)], args := [d1, d2] }
  | _ => none }
def vfsMemoryRow : OpenClaim := { program := "ytpdelgjfamelfaa", sum := "0f3f87d128e8edf5157a4875441c8fb00cbb9989bb0f3ff0681bde57f56cd348", func := "parlance/parlancelaw01.VfsMemory", spec := "vfsMemory", unfollowed := true, recurses := true, apart := false }
def VfsMemorySaid : Prop := vfsMemoryRow.holds Try.pinned (OpenSpec.ofChange vfsMemorySpec)

/-- ITS FALSE NEIGHBOUR: 'it returns false'. Refute it at one input. -/
def vfsMemoryWrong : ChangeSpec := { name := "vfsMemory", fn := fun _ => fun
  | [d1, d2] => { results := [.lit (.bool false)], args := [d1, d2] }
  | _ => none }
def VfsMemoryWrongFalsely : Prop := vfsMemoryRow.holds Try.pinned (OpenSpec.ofChange vfsMemoryWrong)

/-- 'parlancelaw01.VfsRename': WHATEVER THE INPUT: true; the input reads as it did. -/
def vfsRenameSpec : ChangeSpec := { name := "vfsRename", fn := fun _ => fun
  | [d1, d2, d3, d4, d5] => { results := [.lit (.bool true)], args := [d1, d2, d3, d4, d5] }
  | _ => none }
def vfsRenameRow : OpenClaim := { program := "ytpdelgjfamelfaa", sum := "0f3f87d128e8edf5157a4875441c8fb00cbb9989bb0f3ff0681bde57f56cd348", func := "parlance/parlancelaw01.VfsRename", spec := "vfsRename", unfollowed := true, recurses := true, apart := false }
def VfsRenameSaid : Prop := vfsRenameRow.holds Try.pinned (OpenSpec.ofChange vfsRenameSpec)

/-- ITS FALSE NEIGHBOUR: 'it returns false'. Refute it at one input. -/
def vfsRenameWrong : ChangeSpec := { name := "vfsRename", fn := fun _ => fun
  | [d1, d2, d3, d4, d5] => { results := [.lit (.bool false)], args := [d1, d2, d3, d4, d5] }
  | _ => none }
def VfsRenameWrongFalsely : Prop := vfsRenameRow.holds Try.pinned (OpenSpec.ofChange vfsRenameWrong)

/-- 'parlancelaw01.VfsSteps': WHATEVER THE INPUT: true; the input reads as it did. -/
def vfsStepsSpec : ChangeSpec := { name := "vfsSteps", fn := fun _ => fun
  | [d1, d2, d3] => { results := [.lit (.bool true)], args := [d1, d2, d3] }
  | _ => none }
def vfsStepsRow : OpenClaim := { program := "ytpdelgjfamelfaa", sum := "0f3f87d128e8edf5157a4875441c8fb00cbb9989bb0f3ff0681bde57f56cd348", func := "parlance/parlancelaw01.VfsSteps", spec := "vfsSteps", unfollowed := true, recurses := true, apart := false }
def VfsStepsSaid : Prop := vfsStepsRow.holds Try.pinned (OpenSpec.ofChange vfsStepsSpec)

/-- ITS FALSE NEIGHBOUR: 'it returns false'. Refute it at one input. -/
def vfsStepsWrong : ChangeSpec := { name := "vfsSteps", fn := fun _ => fun
  | [d1, d2, d3] => { results := [.lit (.bool false)], args := [d1, d2, d3] }
  | _ => none }
def VfsStepsWrongFalsely : Prop := vfsStepsRow.holds Try.pinned (OpenSpec.ofChange vfsStepsWrong)

/-- 'parlancelaw01.VfsCrash': WHATEVER THE INPUT: true; the input reads as it did. -/
def vfsCrashSpec : ChangeSpec := { name := "vfsCrash", fn := fun _ => fun
  | [d1, d2] => { results := [.lit (.bool true)], args := [d1, d2] }
  | _ => none }
def vfsCrashRow : OpenClaim := { program := "ytpdelgjfamelfaa", sum := "0f3f87d128e8edf5157a4875441c8fb00cbb9989bb0f3ff0681bde57f56cd348", func := "parlance/parlancelaw01.VfsCrash", spec := "vfsCrash", unfollowed := true, recurses := true, apart := false }
def VfsCrashSaid : Prop := vfsCrashRow.holds Try.pinned (OpenSpec.ofChange vfsCrashSpec)

/-- ITS FALSE NEIGHBOUR: 'it returns false'. Refute it at one input. -/
def vfsCrashWrong : ChangeSpec := { name := "vfsCrash", fn := fun _ => fun
  | [d1, d2] => { results := [.lit (.bool false)], args := [d1, d2] }
  | _ => none }
def VfsCrashWrongFalsely : Prop := vfsCrashRow.holds Try.pinned (OpenSpec.ofChange vfsCrashWrong)

/-- 'parlancelaw01.VfsSafe': WHATEVER THE INPUT: true; the input reads as it did. -/
def vfsSafeSpec : ChangeSpec := { name := "vfsSafe", fn := fun _ => fun
  | [d1, d2, d3, d4] => { results := [.lit (.bool true)], args := [d1, d2, d3, d4] }
  | _ => none }
def vfsSafeRow : OpenClaim := { program := "ytpdelgjfamelfaa", sum := "0f3f87d128e8edf5157a4875441c8fb00cbb9989bb0f3ff0681bde57f56cd348", func := "parlance/parlancelaw01.VfsSafe", spec := "vfsSafe", unfollowed := true, recurses := true, apart := false }
def VfsSafeSaid : Prop := vfsSafeRow.holds Try.pinned (OpenSpec.ofChange vfsSafeSpec)

/-- ITS FALSE NEIGHBOUR: 'it returns false'. Refute it at one input. -/
def vfsSafeWrong : ChangeSpec := { name := "vfsSafe", fn := fun _ => fun
  | [d1, d2, d3, d4] => { results := [.lit (.bool false)], args := [d1, d2, d3, d4] }
  | _ => none }
def VfsSafeWrongFalsely : Prop := vfsSafeRow.holds Try.pinned (OpenSpec.ofChange vfsSafeWrong)

/-- 'parlancelaw01.VfsPower': WHATEVER THE INPUT: true; the input reads as it did. -/
def vfsPowerSpec : ChangeSpec := { name := "vfsPower", fn := fun _ => fun
  | [d1, d2] => { results := [.lit (.bool true)], args := [d1, d2] }
  | _ => none }
def vfsPowerRow : OpenClaim := { program := "ytpdelgjfamelfaa", sum := "0f3f87d128e8edf5157a4875441c8fb00cbb9989bb0f3ff0681bde57f56cd348", func := "parlance/parlancelaw01.VfsPower", spec := "vfsPower", unfollowed := true, recurses := true, apart := false }
def VfsPowerSaid : Prop := vfsPowerRow.holds Try.pinned (OpenSpec.ofChange vfsPowerSpec)

/-- ITS FALSE NEIGHBOUR: 'it returns false'. Refute it at one input. -/
def vfsPowerWrong : ChangeSpec := { name := "vfsPower", fn := fun _ => fun
  | [d1, d2] => { results := [.lit (.bool false)], args := [d1, d2] }
  | _ => none }
def VfsPowerWrongFalsely : Prop := vfsPowerRow.holds Try.pinned (OpenSpec.ofChange vfsPowerWrong)

/-- 'parlancelaw02.JournalSums': WHATEVER THE INPUT: true; the input reads as it did. -/
def journalSumsSpec : ChangeSpec := { name := "journalSums", fn := fun _ => fun
  | [d] => { results := [.lit (.bool true)], args := [d] }
  | _ => none }
def journalSumsRow : OpenClaim := { program := "ytpdelgjfamelfaa", sum := "0f3f87d128e8edf5157a4875441c8fb00cbb9989bb0f3ff0681bde57f56cd348", func := "parlance/parlancelaw02.JournalSums", spec := "journalSums", unfollowed := true, recurses := true, apart := false }
def JournalSumsSaid : Prop := journalSumsRow.holds Try.pinned (OpenSpec.ofChange journalSumsSpec)

/-- ITS FALSE NEIGHBOUR: 'it returns false'. Refute it at one input. -/
def journalSumsWrong : ChangeSpec := { name := "journalSums", fn := fun _ => fun
  | [d] => { results := [.lit (.bool false)], args := [d] }
  | _ => none }
def JournalSumsWrongFalsely : Prop := journalSumsRow.holds Try.pinned (OpenSpec.ofChange journalSumsWrong)

/-- 'parlancelaw02.JournalTells': WHATEVER THE INPUT: true; the input reads as it did. -/
def journalTellsSpec : ChangeSpec := { name := "journalTells", fn := fun _ => fun
  | [d1, d2, d3] => { results := [.lit (.bool true)], args := [d1, d2, d3] }
  | _ => none }
def journalTellsRow : OpenClaim := { program := "ytpdelgjfamelfaa", sum := "0f3f87d128e8edf5157a4875441c8fb00cbb9989bb0f3ff0681bde57f56cd348", func := "parlance/parlancelaw02.JournalTells", spec := "journalTells", unfollowed := true, recurses := true, apart := false }
def JournalTellsSaid : Prop := journalTellsRow.holds Try.pinned (OpenSpec.ofChange journalTellsSpec)

/-- ITS FALSE NEIGHBOUR: 'it returns false'. Refute it at one input. -/
def journalTellsWrong : ChangeSpec := { name := "journalTells", fn := fun _ => fun
  | [d1, d2, d3] => { results := [.lit (.bool false)], args := [d1, d2, d3] }
  | _ => none }
def JournalTellsWrongFalsely : Prop := journalTellsRow.holds Try.pinned (OpenSpec.ofChange journalTellsWrong)

/-- 'parlancelaw02.JournalMemory': WHATEVER THE INPUT: true; the input reads as it did. -/
def journalMemorySpec : ChangeSpec := { name := "journalMemory", fn := fun _ => fun
  | [d] => { results := [.lit (.bool true)], args := [d] }
  | _ => none }
def journalMemoryRow : OpenClaim := { program := "ytpdelgjfamelfaa", sum := "0f3f87d128e8edf5157a4875441c8fb00cbb9989bb0f3ff0681bde57f56cd348", func := "parlance/parlancelaw02.JournalMemory", spec := "journalMemory", unfollowed := true, recurses := true, apart := false }
def JournalMemorySaid : Prop := journalMemoryRow.holds Try.pinned (OpenSpec.ofChange journalMemorySpec)

/-- ITS FALSE NEIGHBOUR: 'it returns false'. Refute it at one input. -/
def journalMemoryWrong : ChangeSpec := { name := "journalMemory", fn := fun _ => fun
  | [d] => { results := [.lit (.bool false)], args := [d] }
  | _ => none }
def JournalMemoryWrongFalsely : Prop := journalMemoryRow.holds Try.pinned (OpenSpec.ofChange journalMemoryWrong)

/-- 'parlancelaw02.JournalPrefix': WHATEVER THE INPUT: true; the input reads as it did. -/
def journalPrefixSpec : ChangeSpec := { name := "journalPrefix", fn := fun _ => fun
  | [d1, d2, d3, d4] => { results := [.lit (.bool true)], args := [d1, d2, d3, d4] }
  | _ => none }
def journalPrefixRow : OpenClaim := { program := "ytpdelgjfamelfaa", sum := "0f3f87d128e8edf5157a4875441c8fb00cbb9989bb0f3ff0681bde57f56cd348", func := "parlance/parlancelaw02.JournalPrefix", spec := "journalPrefix", unfollowed := true, recurses := true, apart := false }
def JournalPrefixSaid : Prop := journalPrefixRow.holds Try.pinned (OpenSpec.ofChange journalPrefixSpec)

/-- ITS FALSE NEIGHBOUR: 'it returns false'. Refute it at one input. -/
def journalPrefixWrong : ChangeSpec := { name := "journalPrefix", fn := fun _ => fun
  | [d1, d2, d3, d4] => { results := [.lit (.bool false)], args := [d1, d2, d3, d4] }
  | _ => none }
def JournalPrefixWrongFalsely : Prop := journalPrefixRow.holds Try.pinned (OpenSpec.ofChange journalPrefixWrong)

/-- 'parlancelaw02.JournalLays': WHATEVER THE INPUT: true; the input reads as it did. -/
def journalLaysSpec : ChangeSpec := { name := "journalLays", fn := fun _ => fun
  | [d1, d2, d3, d4] => { results := [.lit (.bool true)], args := [d1, d2, d3, d4] }
  | _ => none }
def journalLaysRow : OpenClaim := { program := "ytpdelgjfamelfaa", sum := "0f3f87d128e8edf5157a4875441c8fb00cbb9989bb0f3ff0681bde57f56cd348", func := "parlance/parlancelaw02.JournalLays", spec := "journalLays", unfollowed := true, recurses := true, apart := false }
def JournalLaysSaid : Prop := journalLaysRow.holds Try.pinned (OpenSpec.ofChange journalLaysSpec)

/-- ITS FALSE NEIGHBOUR: 'it returns false'. Refute it at one input. -/
def journalLaysWrong : ChangeSpec := { name := "journalLays", fn := fun _ => fun
  | [d1, d2, d3, d4] => { results := [.lit (.bool false)], args := [d1, d2, d3, d4] }
  | _ => none }
def JournalLaysWrongFalsely : Prop := journalLaysRow.holds Try.pinned (OpenSpec.ofChange journalLaysWrong)

/- THE SECOND FORM. 'bulk': how many values and letters a reading holds, each counted each time it is reached (what is shared counts as often as it is met; a slice's spare places count too). A statement '..UptoSaid' is the law's where the arguments, and the package variables that the reading takes, are together of bulk at most 1048576: NARROWER than '..Said'. Prove '..Said' where nothing that the law and all that it calls make is longer than what came in: it says more and counts as full. Else prove '..UptoSaid'. A law counts once. -/
mutual
def uptoBulk {H : Type} : DataW H → Nat
  | .lit (.string bytes) => bytes.length + 1
  | .lit _ => 1
  | .nil => 1
  | .ptr d => uptoBulk d + 1
  | .slice elems spare => uptoBulkAll elems + uptoBulkAll spare + 1
  | .agg parts => uptoBulkAll parts + 1
  | .iface _ d => uptoBulk d + 1
  | .map entries => uptoBulkEntries entries + 1
  | .held _ => 1
def uptoBulkAll {H : Type} : List (DataW H) → Nat
  | [] => 0
  | d :: r => uptoBulk d + uptoBulkAll r
def uptoBulkEntries {H : Type} : List (Lit × DataW H) → Nat
  | [] => 0
  | x :: r => uptoBulkEntry x + uptoBulkEntries r
def uptoBulkEntry {H : Type} : Lit × DataW H → Nat
  | (.string bytes, d) => bytes.length + uptoBulk d + 1
  | (_, d) => uptoBulk d + 1
 end
def uptoSmall : (H : Type) → List (DataW H) → Bool := fun _ ds => decide (uptoBulkAll ds ≤ 1048576)
def OpenSpec.upto (s : _root_.Go.ChangeSpec) : _root_.Go.OpenSpec := { _root_.Go.OpenSpec.ofChange s with cond := some uptoSmall }

/-- 'parlancelaw01.VfsMemory', WHERE WHAT IT READS IS OF BULK AT MOST 1048576: true; the input reads as it did. -/
def vfsMemoryUptoRow : OpenClaim := { program := "ytpdelgjfamelfaa", sum := "0f3f87d128e8edf5157a4875441c8fb00cbb9989bb0f3ff0681bde57f56cd348", func := "parlance/parlancelaw01.VfsMemory", spec := "vfsMemory", unfollowed := true, recurses := true, apart := false, narrowed := true }
def VfsMemoryUptoSaid : Prop := vfsMemoryUptoRow.holds Try.pinned (OpenSpec.upto vfsMemorySpec)

/-- 'parlancelaw01.VfsRename', WHERE WHAT IT READS IS OF BULK AT MOST 1048576: true; the input reads as it did. -/
def vfsRenameUptoRow : OpenClaim := { program := "ytpdelgjfamelfaa", sum := "0f3f87d128e8edf5157a4875441c8fb00cbb9989bb0f3ff0681bde57f56cd348", func := "parlance/parlancelaw01.VfsRename", spec := "vfsRename", unfollowed := true, recurses := true, apart := false, narrowed := true }
def VfsRenameUptoSaid : Prop := vfsRenameUptoRow.holds Try.pinned (OpenSpec.upto vfsRenameSpec)

/-- 'parlancelaw01.VfsSteps', WHERE WHAT IT READS IS OF BULK AT MOST 1048576: true; the input reads as it did. -/
def vfsStepsUptoRow : OpenClaim := { program := "ytpdelgjfamelfaa", sum := "0f3f87d128e8edf5157a4875441c8fb00cbb9989bb0f3ff0681bde57f56cd348", func := "parlance/parlancelaw01.VfsSteps", spec := "vfsSteps", unfollowed := true, recurses := true, apart := false, narrowed := true }
def VfsStepsUptoSaid : Prop := vfsStepsUptoRow.holds Try.pinned (OpenSpec.upto vfsStepsSpec)

/-- 'parlancelaw01.VfsCrash', WHERE WHAT IT READS IS OF BULK AT MOST 1048576: true; the input reads as it did. -/
def vfsCrashUptoRow : OpenClaim := { program := "ytpdelgjfamelfaa", sum := "0f3f87d128e8edf5157a4875441c8fb00cbb9989bb0f3ff0681bde57f56cd348", func := "parlance/parlancelaw01.VfsCrash", spec := "vfsCrash", unfollowed := true, recurses := true, apart := false, narrowed := true }
def VfsCrashUptoSaid : Prop := vfsCrashUptoRow.holds Try.pinned (OpenSpec.upto vfsCrashSpec)

/-- 'parlancelaw01.VfsSafe', WHERE WHAT IT READS IS OF BULK AT MOST 1048576: true; the input reads as it did. -/
def vfsSafeUptoRow : OpenClaim := { program := "ytpdelgjfamelfaa", sum := "0f3f87d128e8edf5157a4875441c8fb00cbb9989bb0f3ff0681bde57f56cd348", func := "parlance/parlancelaw01.VfsSafe", spec := "vfsSafe", unfollowed := true, recurses := true, apart := false, narrowed := true }
def VfsSafeUptoSaid : Prop := vfsSafeUptoRow.holds Try.pinned (OpenSpec.upto vfsSafeSpec)

/-- 'parlancelaw01.VfsPower', WHERE WHAT IT READS IS OF BULK AT MOST 1048576: true; the input reads as it did. -/
def vfsPowerUptoRow : OpenClaim := { program := "ytpdelgjfamelfaa", sum := "0f3f87d128e8edf5157a4875441c8fb00cbb9989bb0f3ff0681bde57f56cd348", func := "parlance/parlancelaw01.VfsPower", spec := "vfsPower", unfollowed := true, recurses := true, apart := false, narrowed := true }
def VfsPowerUptoSaid : Prop := vfsPowerUptoRow.holds Try.pinned (OpenSpec.upto vfsPowerSpec)

/-- 'parlancelaw02.JournalSums', WHERE WHAT IT READS IS OF BULK AT MOST 1048576: true; the input reads as it did. -/
def journalSumsUptoRow : OpenClaim := { program := "ytpdelgjfamelfaa", sum := "0f3f87d128e8edf5157a4875441c8fb00cbb9989bb0f3ff0681bde57f56cd348", func := "parlance/parlancelaw02.JournalSums", spec := "journalSums", unfollowed := true, recurses := true, apart := false, narrowed := true }
def JournalSumsUptoSaid : Prop := journalSumsUptoRow.holds Try.pinned (OpenSpec.upto journalSumsSpec)

/-- 'parlancelaw02.JournalTells', WHERE WHAT IT READS IS OF BULK AT MOST 1048576: true; the input reads as it did. -/
def journalTellsUptoRow : OpenClaim := { program := "ytpdelgjfamelfaa", sum := "0f3f87d128e8edf5157a4875441c8fb00cbb9989bb0f3ff0681bde57f56cd348", func := "parlance/parlancelaw02.JournalTells", spec := "journalTells", unfollowed := true, recurses := true, apart := false, narrowed := true }
def JournalTellsUptoSaid : Prop := journalTellsUptoRow.holds Try.pinned (OpenSpec.upto journalTellsSpec)

/-- 'parlancelaw02.JournalMemory', WHERE WHAT IT READS IS OF BULK AT MOST 1048576: true; the input reads as it did. -/
def journalMemoryUptoRow : OpenClaim := { program := "ytpdelgjfamelfaa", sum := "0f3f87d128e8edf5157a4875441c8fb00cbb9989bb0f3ff0681bde57f56cd348", func := "parlance/parlancelaw02.JournalMemory", spec := "journalMemory", unfollowed := true, recurses := true, apart := false, narrowed := true }
def JournalMemoryUptoSaid : Prop := journalMemoryUptoRow.holds Try.pinned (OpenSpec.upto journalMemorySpec)

/-- 'parlancelaw02.JournalPrefix', WHERE WHAT IT READS IS OF BULK AT MOST 1048576: true; the input reads as it did. -/
def journalPrefixUptoRow : OpenClaim := { program := "ytpdelgjfamelfaa", sum := "0f3f87d128e8edf5157a4875441c8fb00cbb9989bb0f3ff0681bde57f56cd348", func := "parlance/parlancelaw02.JournalPrefix", spec := "journalPrefix", unfollowed := true, recurses := true, apart := false, narrowed := true }
def JournalPrefixUptoSaid : Prop := journalPrefixUptoRow.holds Try.pinned (OpenSpec.upto journalPrefixSpec)

/-- 'parlancelaw02.JournalLays', WHERE WHAT IT READS IS OF BULK AT MOST 1048576: true; the input reads as it did. -/
def journalLaysUptoRow : OpenClaim := { program := "ytpdelgjfamelfaa", sum := "0f3f87d128e8edf5157a4875441c8fb00cbb9989bb0f3ff0681bde57f56cd348", func := "parlance/parlancelaw02.JournalLays", spec := "journalLays", unfollowed := true, recurses := true, apart := false, narrowed := true }
def JournalLaysUptoSaid : Prop := journalLaysUptoRow.holds Try.pinned (OpenSpec.upto journalLaysSpec)

end Rows
end Go.Proofs.Ytpdelgjfamelfaa
