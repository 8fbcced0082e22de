/-
  NARROWER THAN 'FOR EVERY INPUT', by the rows' own cells (each row's printed sentence says how): TypesInstances: loops, laid · TypesRound: loops, laid · TypesFilled: loops, laid · TypesShow: loops, laid · TypesChain: loops, laid · TypesClosed: loops, laid · SchemeEncodes: loops, laid · SchemeOrder: loops, laid · SchemeTables: loops, laid · SchemePuts: loops, laid · SchemeDecodes: laid · SchemeRound: loops, laid.
  DERIVED. THE GIVEN ROWS OF THIS SEAT. 12 by the template 'for every input the law returns true; each argument reads behind the call as it read before'; 0 by the template 'total and deterministic' (their statements: YtbhicpjhijondaaDoorTotals.lean).
  GIVEN WITH THE SEED: the statements are not yours to turn. If you find one false, say at which input.
  Laid BY PROGRAM, IN A SANDBOX (cutbox-rows.mjs): the forced cells as the released guide's own fill.sh prints them over the translation 55431d0b1b4fe395… (all of the seat's roots in one cut). By AI agents, Wed Nov 11 2026. No macro, syntax, notation, axiom, sorry.
-/
import Derived.Test.YtbhicpjhijondaaDoorChecked
import GoSem.Claim
import GoSem.ClaimJoined
import GoSem.ClaimMapViews
import Derived.JoinedTies
import Derived.KernelRfl
namespace Go.Proofs.YtbhicpjhijondaaDoor
/- THE CELL 'sum', in the pinned program and in every row, IS THE sha256 OF THE DUMP (.gsa) THAT YtbhicpjhijondaaDoorProg.lean LOADS. Nothing in Lean hashes anything: it is a label: what it is worth is what the hold of that sum in a sandbox is worth. -/
noncomputable def Tryd.pinned : Pinned := { name := "ytbhicpjhijondaadoor", sum := "55431d0b1b4fe39572408fe345104c79bd9cbc68efe8eddbe84f740c40882064", checked := Tryd.checked }
namespace Rows
def none {H : Type} : Left H := { results := [], args := [] }

/- WHAT THE LISTED PACKAGE-LEVEL VARIABLES READ AS WHEN THE CALL BEGINS. Each datum BY PROGRAM (the guide's laid-datum.mjs) off the statement by which the dump's own 'gosem.cut.vars' lays the variable. In a bare row this is a premise. The card (YtbhicpjhijondaaDoorCards.lean) ties it to the program's text. -/
def laid_math_bits_deBruijn32tab {H : Type} : DataW H := .agg [.lit (.int .u8 0), .lit (.int .u8 1), .lit (.int .u8 28), .lit (.int .u8 2), .lit (.int .u8 29), .lit (.int .u8 14), .lit (.int .u8 24), .lit (.int .u8 3), .lit (.int .u8 30), .lit (.int .u8 22), .lit (.int .u8 20), .lit (.int .u8 15), .lit (.int .u8 25), .lit (.int .u8 17), .lit (.int .u8 4), .lit (.int .u8 8), .lit (.int .u8 31), .lit (.int .u8 27), .lit (.int .u8 13), .lit (.int .u8 23), .lit (.int .u8 21), .lit (.int .u8 19), .lit (.int .u8 16), .lit (.int .u8 7), .lit (.int .u8 26), .lit (.int .u8 12), .lit (.int .u8 18), .lit (.int .u8 6), .lit (.int .u8 11), .lit (.int .u8 5), .lit (.int .u8 10), .lit (.int .u8 9)]
def laid_math_bits_deBruijn64tab {H : Type} : DataW H := .agg [.lit (.int .u8 0), .lit (.int .u8 1), .lit (.int .u8 56), .lit (.int .u8 2), .lit (.int .u8 57), .lit (.int .u8 49), .lit (.int .u8 28), .lit (.int .u8 3), .lit (.int .u8 61), .lit (.int .u8 58), .lit (.int .u8 42), .lit (.int .u8 50), .lit (.int .u8 38), .lit (.int .u8 29), .lit (.int .u8 17), .lit (.int .u8 4), .lit (.int .u8 62), .lit (.int .u8 47), .lit (.int .u8 59), .lit (.int .u8 36), .lit (.int .u8 45), .lit (.int .u8 43), .lit (.int .u8 51), .lit (.int .u8 22), .lit (.int .u8 53), .lit (.int .u8 39), .lit (.int .u8 33), .lit (.int .u8 30), .lit (.int .u8 24), .lit (.int .u8 18), .lit (.int .u8 12), .lit (.int .u8 5), .lit (.int .u8 63), .lit (.int .u8 55), .lit (.int .u8 48), .lit (.int .u8 27), .lit (.int .u8 60), .lit (.int .u8 41), .lit (.int .u8 37), .lit (.int .u8 16), .lit (.int .u8 46), .lit (.int .u8 35), .lit (.int .u8 44), .lit (.int .u8 21), .lit (.int .u8 52), .lit (.int .u8 32), .lit (.int .u8 23), .lit (.int .u8 11), .lit (.int .u8 54), .lit (.int .u8 26), .lit (.int .u8 40), .lit (.int .u8 15), .lit (.int .u8 34), .lit (.int .u8 20), .lit (.int .u8 31), .lit (.int .u8 10), .lit (.int .u8 25), .lit (.int .u8 14), .lit (.int .u8 19), .lit (.int .u8 9), .lit (.int .u8 13), .lit (.int .u8 8), .lit (.int .u8 7), .lit (.int .u8 6)]
def laid_internal_strconv_uint64pow10 {H : Type} : DataW H := .agg [.lit (.int .u64 1), .lit (.int .u64 10), .lit (.int .u64 100), .lit (.int .u64 1000), .lit (.int .u64 10000), .lit (.int .u64 100000), .lit (.int .u64 1000000), .lit (.int .u64 10000000), .lit (.int .u64 100000000), .lit (.int .u64 1000000000), .lit (.int .u64 10000000000), .lit (.int .u64 100000000000), .lit (.int .u64 1000000000000), .lit (.int .u64 10000000000000), .lit (.int .u64 100000000000000), .lit (.int .u64 1000000000000000), .lit (.int .u64 10000000000000000), .lit (.int .u64 100000000000000000), .lit (.int .u64 1000000000000000000), .lit (.int .u64 10000000000000000000)]

/-- 'parlancelaw12.TypesInstances': WHATEVER THE INPUT: true; the input reads as it did. -/
def typesInstancesSpec : ChangeSpec := { name := "typesInstances", fn := fun _ => fun
  | [d1, d2] => { results := [.lit (.bool true)], args := [d1, d2] }
  | _ => none }
def typesInstancesRow : OpenClaim := { program := "ytbhicpjhijondaadoor", sum := "55431d0b1b4fe39572408fe345104c79bd9cbc68efe8eddbe84f740c40882064", func := "parlance/parlancelaw12.TypesInstances", spec := "typesInstances", inPlace := ["internal/abi.NoEscape"], unfollowed := true, recurses := true, named := ["internal/strconv.uint64pow10", "math/bits.deBruijn32tab", "math/bits.deBruijn64tab"], loops := true, plainKeys := false, apart := false, laid := [("math/bits.deBruijn32tab", laid_math_bits_deBruijn32tab), ("math/bits.deBruijn64tab", laid_math_bits_deBruijn64tab), ("internal/strconv.uint64pow10", laid_internal_strconv_uint64pow10)] }
def TypesInstancesSaid : Prop := typesInstancesRow.holds Tryd.pinned (OpenSpec.ofChange typesInstancesSpec)

/-- ITS FALSE NEIGHBOUR: 'it returns false'. Refute it at one input. -/
def typesInstancesWrong : ChangeSpec := { name := "typesInstances", fn := fun _ => fun
  | [d1, d2] => { results := [.lit (.bool false)], args := [d1, d2] }
  | _ => none }
def TypesInstancesWrongFalsely : Prop := typesInstancesRow.holds Tryd.pinned (OpenSpec.ofChange typesInstancesWrong)

/-- 'parlancelaw12.TypesRound': WHATEVER THE INPUT: true; the input reads as it did. -/
def typesRoundSpec : ChangeSpec := { name := "typesRound", fn := fun _ => fun
  | [d1, d2] => { results := [.lit (.bool true)], args := [d1, d2] }
  | _ => none }
def typesRoundRow : OpenClaim := { program := "ytbhicpjhijondaadoor", sum := "55431d0b1b4fe39572408fe345104c79bd9cbc68efe8eddbe84f740c40882064", func := "parlance/parlancelaw12.TypesRound", spec := "typesRound", inPlace := ["internal/abi.NoEscape"], unfollowed := true, recurses := true, named := ["internal/strconv.uint64pow10", "math/bits.deBruijn32tab", "math/bits.deBruijn64tab"], loops := true, plainKeys := false, apart := false, laid := [("math/bits.deBruijn32tab", laid_math_bits_deBruijn32tab), ("math/bits.deBruijn64tab", laid_math_bits_deBruijn64tab), ("internal/strconv.uint64pow10", laid_internal_strconv_uint64pow10)] }
def TypesRoundSaid : Prop := typesRoundRow.holds Tryd.pinned (OpenSpec.ofChange typesRoundSpec)

/-- ITS FALSE NEIGHBOUR: 'it returns false'. Refute it at one input. -/
def typesRoundWrong : ChangeSpec := { name := "typesRound", fn := fun _ => fun
  | [d1, d2] => { results := [.lit (.bool false)], args := [d1, d2] }
  | _ => none }
def TypesRoundWrongFalsely : Prop := typesRoundRow.holds Tryd.pinned (OpenSpec.ofChange typesRoundWrong)

/-- 'parlancelaw12.TypesFilled': WHATEVER THE INPUT: true; the input reads as it did. -/
def typesFilledSpec : ChangeSpec := { name := "typesFilled", fn := fun _ => fun
  | [d1, d2] => { results := [.lit (.bool true)], args := [d1, d2] }
  | _ => none }
def typesFilledRow : OpenClaim := { program := "ytbhicpjhijondaadoor", sum := "55431d0b1b4fe39572408fe345104c79bd9cbc68efe8eddbe84f740c40882064", func := "parlance/parlancelaw12.TypesFilled", spec := "typesFilled", inPlace := ["internal/abi.NoEscape"], unfollowed := true, recurses := true, named := ["internal/strconv.uint64pow10", "math/bits.deBruijn32tab", "math/bits.deBruijn64tab"], loops := true, plainKeys := false, apart := false, laid := [("math/bits.deBruijn32tab", laid_math_bits_deBruijn32tab), ("math/bits.deBruijn64tab", laid_math_bits_deBruijn64tab), ("internal/strconv.uint64pow10", laid_internal_strconv_uint64pow10)] }
def TypesFilledSaid : Prop := typesFilledRow.holds Tryd.pinned (OpenSpec.ofChange typesFilledSpec)

/-- ITS FALSE NEIGHBOUR: 'it returns false'. Refute it at one input. -/
def typesFilledWrong : ChangeSpec := { name := "typesFilled", fn := fun _ => fun
  | [d1, d2] => { results := [.lit (.bool false)], args := [d1, d2] }
  | _ => none }
def TypesFilledWrongFalsely : Prop := typesFilledRow.holds Tryd.pinned (OpenSpec.ofChange typesFilledWrong)

/-- 'parlancelaw12.TypesShow': WHATEVER THE INPUT: true; the input reads as it did. -/
def typesShowSpec : ChangeSpec := { name := "typesShow", fn := fun _ => fun
  | [d] => { results := [.lit (.bool true)], args := [d] }
  | _ => none }
def typesShowRow : OpenClaim := { program := "ytbhicpjhijondaadoor", sum := "55431d0b1b4fe39572408fe345104c79bd9cbc68efe8eddbe84f740c40882064", func := "parlance/parlancelaw12.TypesShow", spec := "typesShow", inPlace := ["internal/abi.NoEscape"], unfollowed := true, recurses := true, named := ["internal/strconv.uint64pow10", "math/bits.deBruijn32tab", "math/bits.deBruijn64tab"], loops := true, plainKeys := false, apart := false, laid := [("math/bits.deBruijn32tab", laid_math_bits_deBruijn32tab), ("math/bits.deBruijn64tab", laid_math_bits_deBruijn64tab), ("internal/strconv.uint64pow10", laid_internal_strconv_uint64pow10)] }
def TypesShowSaid : Prop := typesShowRow.holds Tryd.pinned (OpenSpec.ofChange typesShowSpec)

/-- ITS FALSE NEIGHBOUR: 'it returns false'. Refute it at one input. -/
def typesShowWrong : ChangeSpec := { name := "typesShow", fn := fun _ => fun
  | [d] => { results := [.lit (.bool false)], args := [d] }
  | _ => none }
def TypesShowWrongFalsely : Prop := typesShowRow.holds Tryd.pinned (OpenSpec.ofChange typesShowWrong)

/-- 'parlancelaw12.TypesChain': WHATEVER THE INPUT: true; the input reads as it did. -/
def typesChainSpec : ChangeSpec := { name := "typesChain", fn := fun _ => fun
  | [d1, d2, d3] => { results := [.lit (.bool true)], args := [d1, d2, d3] }
  | _ => none }
def typesChainRow : OpenClaim := { program := "ytbhicpjhijondaadoor", sum := "55431d0b1b4fe39572408fe345104c79bd9cbc68efe8eddbe84f740c40882064", func := "parlance/parlancelaw12.TypesChain", spec := "typesChain", inPlace := ["internal/abi.NoEscape"], unfollowed := true, recurses := true, named := ["internal/strconv.uint64pow10", "math/bits.deBruijn32tab", "math/bits.deBruijn64tab"], loops := true, plainKeys := false, apart := false, laid := [("math/bits.deBruijn32tab", laid_math_bits_deBruijn32tab), ("math/bits.deBruijn64tab", laid_math_bits_deBruijn64tab), ("internal/strconv.uint64pow10", laid_internal_strconv_uint64pow10)] }
def TypesChainSaid : Prop := typesChainRow.holds Tryd.pinned (OpenSpec.ofChange typesChainSpec)

/-- ITS FALSE NEIGHBOUR: 'it returns false'. Refute it at one input. -/
def typesChainWrong : ChangeSpec := { name := "typesChain", fn := fun _ => fun
  | [d1, d2, d3] => { results := [.lit (.bool false)], args := [d1, d2, d3] }
  | _ => none }
def TypesChainWrongFalsely : Prop := typesChainRow.holds Tryd.pinned (OpenSpec.ofChange typesChainWrong)

/-- 'parlancelaw12.TypesClosed': WHATEVER THE INPUT: true; the input reads as it did. -/
def typesClosedSpec : ChangeSpec := { name := "typesClosed", fn := fun _ => fun
  | [d] => { results := [.lit (.bool true)], args := [d] }
  | _ => none }
def typesClosedRow : OpenClaim := { program := "ytbhicpjhijondaadoor", sum := "55431d0b1b4fe39572408fe345104c79bd9cbc68efe8eddbe84f740c40882064", func := "parlance/parlancelaw12.TypesClosed", spec := "typesClosed", inPlace := ["internal/abi.NoEscape"], unfollowed := true, recurses := true, named := ["internal/strconv.uint64pow10", "math/bits.deBruijn32tab", "math/bits.deBruijn64tab"], loops := true, plainKeys := false, apart := false, laid := [("math/bits.deBruijn32tab", laid_math_bits_deBruijn32tab), ("math/bits.deBruijn64tab", laid_math_bits_deBruijn64tab), ("internal/strconv.uint64pow10", laid_internal_strconv_uint64pow10)] }
def TypesClosedSaid : Prop := typesClosedRow.holds Tryd.pinned (OpenSpec.ofChange typesClosedSpec)

/-- ITS FALSE NEIGHBOUR: 'it returns false'. Refute it at one input. -/
def typesClosedWrong : ChangeSpec := { name := "typesClosed", fn := fun _ => fun
  | [d] => { results := [.lit (.bool false)], args := [d] }
  | _ => none }
def TypesClosedWrongFalsely : Prop := typesClosedRow.holds Tryd.pinned (OpenSpec.ofChange typesClosedWrong)

/-- 'parlancelaw14.SchemeEncodes': WHATEVER THE INPUT: true; the input reads as it did. -/
def schemeEncodesSpec : ChangeSpec := { name := "schemeEncodes", fn := fun _ => fun
  | [d] => { results := [.lit (.bool true)], args := [d] }
  | _ => none }
def schemeEncodesRow : OpenClaim := { program := "ytbhicpjhijondaadoor", sum := "55431d0b1b4fe39572408fe345104c79bd9cbc68efe8eddbe84f740c40882064", func := "parlance/parlancelaw14.SchemeEncodes", spec := "schemeEncodes", inPlace := ["internal/abi.NoEscape"], unfollowed := true, recurses := true, named := ["internal/strconv.uint64pow10", "math/bits.deBruijn32tab", "math/bits.deBruijn64tab"], loops := true, plainKeys := false, apart := false, laid := [("math/bits.deBruijn32tab", laid_math_bits_deBruijn32tab), ("math/bits.deBruijn64tab", laid_math_bits_deBruijn64tab), ("internal/strconv.uint64pow10", laid_internal_strconv_uint64pow10)] }
def SchemeEncodesSaid : Prop := schemeEncodesRow.holds Tryd.pinned (OpenSpec.ofChange schemeEncodesSpec)

/-- ITS FALSE NEIGHBOUR: 'it returns false'. Refute it at one input. -/
def schemeEncodesWrong : ChangeSpec := { name := "schemeEncodes", fn := fun _ => fun
  | [d] => { results := [.lit (.bool false)], args := [d] }
  | _ => none }
def SchemeEncodesWrongFalsely : Prop := schemeEncodesRow.holds Tryd.pinned (OpenSpec.ofChange schemeEncodesWrong)

/-- 'parlancelaw14.SchemeOrder': WHATEVER THE INPUT: true; the input reads as it did. -/
def schemeOrderSpec : ChangeSpec := { name := "schemeOrder", fn := fun _ => fun
  | [d1, d2, d3] => { results := [.lit (.bool true)], args := [d1, d2, d3] }
  | _ => none }
def schemeOrderRow : OpenClaim := { program := "ytbhicpjhijondaadoor", sum := "55431d0b1b4fe39572408fe345104c79bd9cbc68efe8eddbe84f740c40882064", func := "parlance/parlancelaw14.SchemeOrder", spec := "schemeOrder", inPlace := ["internal/abi.NoEscape"], unfollowed := true, recurses := true, named := ["internal/strconv.uint64pow10", "math/bits.deBruijn32tab", "math/bits.deBruijn64tab"], loops := true, plainKeys := false, apart := false, laid := [("math/bits.deBruijn32tab", laid_math_bits_deBruijn32tab), ("math/bits.deBruijn64tab", laid_math_bits_deBruijn64tab), ("internal/strconv.uint64pow10", laid_internal_strconv_uint64pow10)] }
def SchemeOrderSaid : Prop := schemeOrderRow.holds Tryd.pinned (OpenSpec.ofChange schemeOrderSpec)

/-- ITS FALSE NEIGHBOUR: 'it returns false'. Refute it at one input. -/
def schemeOrderWrong : ChangeSpec := { name := "schemeOrder", fn := fun _ => fun
  | [d1, d2, d3] => { results := [.lit (.bool false)], args := [d1, d2, d3] }
  | _ => none }
def SchemeOrderWrongFalsely : Prop := schemeOrderRow.holds Tryd.pinned (OpenSpec.ofChange schemeOrderWrong)

/-- 'parlancelaw14.SchemeTables': WHATEVER THE INPUT: true; the input reads as it did. -/
def schemeTablesSpec : ChangeSpec := { name := "schemeTables", fn := fun _ => fun
  | [d1, d2, d3] => { results := [.lit (.bool true)], args := [d1, d2, d3] }
  | _ => none }
def schemeTablesRow : OpenClaim := { program := "ytbhicpjhijondaadoor", sum := "55431d0b1b4fe39572408fe345104c79bd9cbc68efe8eddbe84f740c40882064", func := "parlance/parlancelaw14.SchemeTables", spec := "schemeTables", inPlace := ["internal/abi.NoEscape"], unfollowed := true, recurses := true, named := ["internal/strconv.uint64pow10", "math/bits.deBruijn32tab", "math/bits.deBruijn64tab"], loops := true, plainKeys := false, apart := false, laid := [("math/bits.deBruijn32tab", laid_math_bits_deBruijn32tab), ("math/bits.deBruijn64tab", laid_math_bits_deBruijn64tab), ("internal/strconv.uint64pow10", laid_internal_strconv_uint64pow10)] }
def SchemeTablesSaid : Prop := schemeTablesRow.holds Tryd.pinned (OpenSpec.ofChange schemeTablesSpec)

/-- ITS FALSE NEIGHBOUR: 'it returns false'. Refute it at one input. -/
def schemeTablesWrong : ChangeSpec := { name := "schemeTables", fn := fun _ => fun
  | [d1, d2, d3] => { results := [.lit (.bool false)], args := [d1, d2, d3] }
  | _ => none }
def SchemeTablesWrongFalsely : Prop := schemeTablesRow.holds Tryd.pinned (OpenSpec.ofChange schemeTablesWrong)

/-- 'parlancelaw14.SchemePuts': WHATEVER THE INPUT: true; the input reads as it did. -/
def schemePutsSpec : ChangeSpec := { name := "schemePuts", fn := fun _ => fun
  | [d1, d2, d3, d4] => { results := [.lit (.bool true)], args := [d1, d2, d3, d4] }
  | _ => none }
def schemePutsRow : OpenClaim := { program := "ytbhicpjhijondaadoor", sum := "55431d0b1b4fe39572408fe345104c79bd9cbc68efe8eddbe84f740c40882064", func := "parlance/parlancelaw14.SchemePuts", spec := "schemePuts", inPlace := ["internal/abi.NoEscape"], unfollowed := true, recurses := true, named := ["internal/strconv.uint64pow10", "math/bits.deBruijn32tab", "math/bits.deBruijn64tab"], loops := true, plainKeys := false, apart := false, laid := [("math/bits.deBruijn32tab", laid_math_bits_deBruijn32tab), ("math/bits.deBruijn64tab", laid_math_bits_deBruijn64tab), ("internal/strconv.uint64pow10", laid_internal_strconv_uint64pow10)] }
def SchemePutsSaid : Prop := schemePutsRow.holds Tryd.pinned (OpenSpec.ofChange schemePutsSpec)

/-- ITS FALSE NEIGHBOUR: 'it returns false'. Refute it at one input. -/
def schemePutsWrong : ChangeSpec := { name := "schemePuts", fn := fun _ => fun
  | [d1, d2, d3, d4] => { results := [.lit (.bool false)], args := [d1, d2, d3, d4] }
  | _ => none }
def SchemePutsWrongFalsely : Prop := schemePutsRow.holds Tryd.pinned (OpenSpec.ofChange schemePutsWrong)

/-- 'parlancelaw14.SchemeDecodes': WHATEVER THE INPUT: true; the input reads as it did. -/
def schemeDecodesSpec : ChangeSpec := { name := "schemeDecodes", fn := fun _ => fun
  | [d] => { results := [.lit (.bool true)], args := [d] }
  | _ => none }
def schemeDecodesRow : OpenClaim := { program := "ytbhicpjhijondaadoor", sum := "55431d0b1b4fe39572408fe345104c79bd9cbc68efe8eddbe84f740c40882064", func := "parlance/parlancelaw14.SchemeDecodes", spec := "schemeDecodes", inPlace := ["internal/abi.NoEscape"], unfollowed := true, recurses := true, named := ["internal/strconv.uint64pow10", "math/bits.deBruijn32tab", "math/bits.deBruijn64tab"], plainKeys := false, apart := false, laid := [("math/bits.deBruijn32tab", laid_math_bits_deBruijn32tab), ("math/bits.deBruijn64tab", laid_math_bits_deBruijn64tab), ("internal/strconv.uint64pow10", laid_internal_strconv_uint64pow10)] }
def SchemeDecodesSaid : Prop := schemeDecodesRow.holds Tryd.pinned (OpenSpec.ofChange schemeDecodesSpec)

/-- ITS FALSE NEIGHBOUR: 'it returns false'. Refute it at one input. -/
def schemeDecodesWrong : ChangeSpec := { name := "schemeDecodes", fn := fun _ => fun
  | [d] => { results := [.lit (.bool false)], args := [d] }
  | _ => none }
def SchemeDecodesWrongFalsely : Prop := schemeDecodesRow.holds Tryd.pinned (OpenSpec.ofChange schemeDecodesWrong)

/-- 'parlancelaw14.SchemeRound': WHATEVER THE INPUT: true; the input reads as it did. -/
def schemeRoundSpec : ChangeSpec := { name := "schemeRound", fn := fun _ => fun
  | [d1, d2, d3] => { results := [.lit (.bool true)], args := [d1, d2, d3] }
  | _ => none }
def schemeRoundRow : OpenClaim := { program := "ytbhicpjhijondaadoor", sum := "55431d0b1b4fe39572408fe345104c79bd9cbc68efe8eddbe84f740c40882064", func := "parlance/parlancelaw14.SchemeRound", spec := "schemeRound", inPlace := ["internal/abi.NoEscape"], unfollowed := true, recurses := true, named := ["internal/strconv.uint64pow10", "math/bits.deBruijn32tab", "math/bits.deBruijn64tab"], loops := true, plainKeys := false, apart := false, laid := [("math/bits.deBruijn32tab", laid_math_bits_deBruijn32tab), ("math/bits.deBruijn64tab", laid_math_bits_deBruijn64tab), ("internal/strconv.uint64pow10", laid_internal_strconv_uint64pow10)] }
def SchemeRoundSaid : Prop := schemeRoundRow.holds Tryd.pinned (OpenSpec.ofChange schemeRoundSpec)

/-- ITS FALSE NEIGHBOUR: 'it returns false'. Refute it at one input. -/
def schemeRoundWrong : ChangeSpec := { name := "schemeRound", fn := fun _ => fun
  | [d1, d2, d3] => { results := [.lit (.bool false)], args := [d1, d2, d3] }
  | _ => none }
def SchemeRoundWrongFalsely : Prop := schemeRoundRow.holds Tryd.pinned (OpenSpec.ofChange schemeRoundWrong)

/- THE SECOND FORM. 'bulk': how many values and letters a reading holds, each counted each time it is reached (what is shared counts as often as it is met; a slice's spare places count too). A statement '..UptoSaid' is the law's where the arguments, and the package variables that the reading takes, are together of bulk at most 1048576: NARROWER than '..Said'. Prove '..Said' where nothing that the law and all that it calls make is longer than what came in: it says more and counts as full. Else prove '..UptoSaid'. A law counts once. -/
mutual
def uptoBulk {H : Type} : DataW H → Nat
  | .lit (.string bytes) => bytes.length + 1
  | .lit _ => 1
  | .nil => 1
  | .ptr d => uptoBulk d + 1
  | .slice elems spare => uptoBulkAll elems + uptoBulkAll spare + 1
  | .agg parts => uptoBulkAll parts + 1
  | .iface _ d => uptoBulk d + 1
  | .map entries => uptoBulkEntries entries + 1
  | .held _ => 1
def uptoBulkAll {H : Type} : List (DataW H) → Nat
  | [] => 0
  | d :: r => uptoBulk d + uptoBulkAll r
def uptoBulkEntries {H : Type} : List (Lit × DataW H) → Nat
  | [] => 0
  | x :: r => uptoBulkEntry x + uptoBulkEntries r
def uptoBulkEntry {H : Type} : Lit × DataW H → Nat
  | (.string bytes, d) => bytes.length + uptoBulk d + 1
  | (_, d) => uptoBulk d + 1
 end
def uptoSmall : (H : Type) → List (DataW H) → Bool := fun _ ds => decide (uptoBulkAll ds ≤ 1048576)
def OpenSpec.upto (s : _root_.Go.ChangeSpec) : _root_.Go.OpenSpec := { _root_.Go.OpenSpec.ofChange s with cond := some uptoSmall }

/-- 'parlancelaw12.TypesInstances', WHERE WHAT IT READS IS OF BULK AT MOST 1048576: true; the input reads as it did. -/
def typesInstancesUptoRow : OpenClaim := { program := "ytbhicpjhijondaadoor", sum := "55431d0b1b4fe39572408fe345104c79bd9cbc68efe8eddbe84f740c40882064", func := "parlance/parlancelaw12.TypesInstances", spec := "typesInstances", inPlace := ["internal/abi.NoEscape"], unfollowed := true, recurses := true, named := ["internal/strconv.uint64pow10", "math/bits.deBruijn32tab", "math/bits.deBruijn64tab"], loops := true, plainKeys := false, apart := false, laid := [("math/bits.deBruijn32tab", laid_math_bits_deBruijn32tab), ("math/bits.deBruijn64tab", laid_math_bits_deBruijn64tab), ("internal/strconv.uint64pow10", laid_internal_strconv_uint64pow10)], narrowed := true }
def TypesInstancesUptoSaid : Prop := typesInstancesUptoRow.holds Tryd.pinned (OpenSpec.upto typesInstancesSpec)

/-- 'parlancelaw12.TypesRound', WHERE WHAT IT READS IS OF BULK AT MOST 1048576: true; the input reads as it did. -/
def typesRoundUptoRow : OpenClaim := { program := "ytbhicpjhijondaadoor", sum := "55431d0b1b4fe39572408fe345104c79bd9cbc68efe8eddbe84f740c40882064", func := "parlance/parlancelaw12.TypesRound", spec := "typesRound", inPlace := ["internal/abi.NoEscape"], unfollowed := true, recurses := true, named := ["internal/strconv.uint64pow10", "math/bits.deBruijn32tab", "math/bits.deBruijn64tab"], loops := true, plainKeys := false, apart := false, laid := [("math/bits.deBruijn32tab", laid_math_bits_deBruijn32tab), ("math/bits.deBruijn64tab", laid_math_bits_deBruijn64tab), ("internal/strconv.uint64pow10", laid_internal_strconv_uint64pow10)], narrowed := true }
def TypesRoundUptoSaid : Prop := typesRoundUptoRow.holds Tryd.pinned (OpenSpec.upto typesRoundSpec)

/-- 'parlancelaw12.TypesFilled', WHERE WHAT IT READS IS OF BULK AT MOST 1048576: true; the input reads as it did. -/
def typesFilledUptoRow : OpenClaim := { program := "ytbhicpjhijondaadoor", sum := "55431d0b1b4fe39572408fe345104c79bd9cbc68efe8eddbe84f740c40882064", func := "parlance/parlancelaw12.TypesFilled", spec := "typesFilled", inPlace := ["internal/abi.NoEscape"], unfollowed := true, recurses := true, named := ["internal/strconv.uint64pow10", "math/bits.deBruijn32tab", "math/bits.deBruijn64tab"], loops := true, plainKeys := false, apart := false, laid := [("math/bits.deBruijn32tab", laid_math_bits_deBruijn32tab), ("math/bits.deBruijn64tab", laid_math_bits_deBruijn64tab), ("internal/strconv.uint64pow10", laid_internal_strconv_uint64pow10)], narrowed := true }
def TypesFilledUptoSaid : Prop := typesFilledUptoRow.holds Tryd.pinned (OpenSpec.upto typesFilledSpec)

/-- 'parlancelaw12.TypesShow', WHERE WHAT IT READS IS OF BULK AT MOST 1048576: true; the input reads as it did. -/
def typesShowUptoRow : OpenClaim := { program := "ytbhicpjhijondaadoor", sum := "55431d0b1b4fe39572408fe345104c79bd9cbc68efe8eddbe84f740c40882064", func := "parlance/parlancelaw12.TypesShow", spec := "typesShow", inPlace := ["internal/abi.NoEscape"], unfollowed := true, recurses := true, named := ["internal/strconv.uint64pow10", "math/bits.deBruijn32tab", "math/bits.deBruijn64tab"], loops := true, plainKeys := false, apart := false, laid := [("math/bits.deBruijn32tab", laid_math_bits_deBruijn32tab), ("math/bits.deBruijn64tab", laid_math_bits_deBruijn64tab), ("internal/strconv.uint64pow10", laid_internal_strconv_uint64pow10)], narrowed := true }
def TypesShowUptoSaid : Prop := typesShowUptoRow.holds Tryd.pinned (OpenSpec.upto typesShowSpec)

/-- 'parlancelaw12.TypesChain', WHERE WHAT IT READS IS OF BULK AT MOST 1048576: true; the input reads as it did. -/
def typesChainUptoRow : OpenClaim := { program := "ytbhicpjhijondaadoor", sum := "55431d0b1b4fe39572408fe345104c79bd9cbc68efe8eddbe84f740c40882064", func := "parlance/parlancelaw12.TypesChain", spec := "typesChain", inPlace := ["internal/abi.NoEscape"], unfollowed := true, recurses := true, named := ["internal/strconv.uint64pow10", "math/bits.deBruijn32tab", "math/bits.deBruijn64tab"], loops := true, plainKeys := false, apart := false, laid := [("math/bits.deBruijn32tab", laid_math_bits_deBruijn32tab), ("math/bits.deBruijn64tab", laid_math_bits_deBruijn64tab), ("internal/strconv.uint64pow10", laid_internal_strconv_uint64pow10)], narrowed := true }
def TypesChainUptoSaid : Prop := typesChainUptoRow.holds Tryd.pinned (OpenSpec.upto typesChainSpec)

/-- 'parlancelaw12.TypesClosed', WHERE WHAT IT READS IS OF BULK AT MOST 1048576: true; the input reads as it did. -/
def typesClosedUptoRow : OpenClaim := { program := "ytbhicpjhijondaadoor", sum := "55431d0b1b4fe39572408fe345104c79bd9cbc68efe8eddbe84f740c40882064", func := "parlance/parlancelaw12.TypesClosed", spec := "typesClosed", inPlace := ["internal/abi.NoEscape"], unfollowed := true, recurses := true, named := ["internal/strconv.uint64pow10", "math/bits.deBruijn32tab", "math/bits.deBruijn64tab"], loops := true, plainKeys := false, apart := false, laid := [("math/bits.deBruijn32tab", laid_math_bits_deBruijn32tab), ("math/bits.deBruijn64tab", laid_math_bits_deBruijn64tab), ("internal/strconv.uint64pow10", laid_internal_strconv_uint64pow10)], narrowed := true }
def TypesClosedUptoSaid : Prop := typesClosedUptoRow.holds Tryd.pinned (OpenSpec.upto typesClosedSpec)

/-- 'parlancelaw14.SchemeEncodes', WHERE WHAT IT READS IS OF BULK AT MOST 1048576: true; the input reads as it did. -/
def schemeEncodesUptoRow : OpenClaim := { program := "ytbhicpjhijondaadoor", sum := "55431d0b1b4fe39572408fe345104c79bd9cbc68efe8eddbe84f740c40882064", func := "parlance/parlancelaw14.SchemeEncodes", spec := "schemeEncodes", inPlace := ["internal/abi.NoEscape"], unfollowed := true, recurses := true, named := ["internal/strconv.uint64pow10", "math/bits.deBruijn32tab", "math/bits.deBruijn64tab"], loops := true, plainKeys := false, apart := false, laid := [("math/bits.deBruijn32tab", laid_math_bits_deBruijn32tab), ("math/bits.deBruijn64tab", laid_math_bits_deBruijn64tab), ("internal/strconv.uint64pow10", laid_internal_strconv_uint64pow10)], narrowed := true }
def SchemeEncodesUptoSaid : Prop := schemeEncodesUptoRow.holds Tryd.pinned (OpenSpec.upto schemeEncodesSpec)

/-- 'parlancelaw14.SchemeOrder', WHERE WHAT IT READS IS OF BULK AT MOST 1048576: true; the input reads as it did. -/
def schemeOrderUptoRow : OpenClaim := { program := "ytbhicpjhijondaadoor", sum := "55431d0b1b4fe39572408fe345104c79bd9cbc68efe8eddbe84f740c40882064", func := "parlance/parlancelaw14.SchemeOrder", spec := "schemeOrder", inPlace := ["internal/abi.NoEscape"], unfollowed := true, recurses := true, named := ["internal/strconv.uint64pow10", "math/bits.deBruijn32tab", "math/bits.deBruijn64tab"], loops := true, plainKeys := false, apart := false, laid := [("math/bits.deBruijn32tab", laid_math_bits_deBruijn32tab), ("math/bits.deBruijn64tab", laid_math_bits_deBruijn64tab), ("internal/strconv.uint64pow10", laid_internal_strconv_uint64pow10)], narrowed := true }
def SchemeOrderUptoSaid : Prop := schemeOrderUptoRow.holds Tryd.pinned (OpenSpec.upto schemeOrderSpec)

/-- 'parlancelaw14.SchemeTables', WHERE WHAT IT READS IS OF BULK AT MOST 1048576: true; the input reads as it did. -/
def schemeTablesUptoRow : OpenClaim := { program := "ytbhicpjhijondaadoor", sum := "55431d0b1b4fe39572408fe345104c79bd9cbc68efe8eddbe84f740c40882064", func := "parlance/parlancelaw14.SchemeTables", spec := "schemeTables", inPlace := ["internal/abi.NoEscape"], unfollowed := true, recurses := true, named := ["internal/strconv.uint64pow10", "math/bits.deBruijn32tab", "math/bits.deBruijn64tab"], loops := true, plainKeys := false, apart := false, laid := [("math/bits.deBruijn32tab", laid_math_bits_deBruijn32tab), ("math/bits.deBruijn64tab", laid_math_bits_deBruijn64tab), ("internal/strconv.uint64pow10", laid_internal_strconv_uint64pow10)], narrowed := true }
def SchemeTablesUptoSaid : Prop := schemeTablesUptoRow.holds Tryd.pinned (OpenSpec.upto schemeTablesSpec)

/-- 'parlancelaw14.SchemePuts', WHERE WHAT IT READS IS OF BULK AT MOST 1048576: true; the input reads as it did. -/
def schemePutsUptoRow : OpenClaim := { program := "ytbhicpjhijondaadoor", sum := "55431d0b1b4fe39572408fe345104c79bd9cbc68efe8eddbe84f740c40882064", func := "parlance/parlancelaw14.SchemePuts", spec := "schemePuts", inPlace := ["internal/abi.NoEscape"], unfollowed := true, recurses := true, named := ["internal/strconv.uint64pow10", "math/bits.deBruijn32tab", "math/bits.deBruijn64tab"], loops := true, plainKeys := false, apart := false, laid := [("math/bits.deBruijn32tab", laid_math_bits_deBruijn32tab), ("math/bits.deBruijn64tab", laid_math_bits_deBruijn64tab), ("internal/strconv.uint64pow10", laid_internal_strconv_uint64pow10)], narrowed := true }
def SchemePutsUptoSaid : Prop := schemePutsUptoRow.holds Tryd.pinned (OpenSpec.upto schemePutsSpec)

/-- 'parlancelaw14.SchemeDecodes', WHERE WHAT IT READS IS OF BULK AT MOST 1048576: true; the input reads as it did. -/
def schemeDecodesUptoRow : OpenClaim := { program := "ytbhicpjhijondaadoor", sum := "55431d0b1b4fe39572408fe345104c79bd9cbc68efe8eddbe84f740c40882064", func := "parlance/parlancelaw14.SchemeDecodes", spec := "schemeDecodes", inPlace := ["internal/abi.NoEscape"], unfollowed := true, recurses := true, named := ["internal/strconv.uint64pow10", "math/bits.deBruijn32tab", "math/bits.deBruijn64tab"], plainKeys := false, apart := false, laid := [("math/bits.deBruijn32tab", laid_math_bits_deBruijn32tab), ("math/bits.deBruijn64tab", laid_math_bits_deBruijn64tab), ("internal/strconv.uint64pow10", laid_internal_strconv_uint64pow10)], narrowed := true }
def SchemeDecodesUptoSaid : Prop := schemeDecodesUptoRow.holds Tryd.pinned (OpenSpec.upto schemeDecodesSpec)

/-- 'parlancelaw14.SchemeRound', WHERE WHAT IT READS IS OF BULK AT MOST 1048576: true; the input reads as it did. -/
def schemeRoundUptoRow : OpenClaim := { program := "ytbhicpjhijondaadoor", sum := "55431d0b1b4fe39572408fe345104c79bd9cbc68efe8eddbe84f740c40882064", func := "parlance/parlancelaw14.SchemeRound", spec := "schemeRound", inPlace := ["internal/abi.NoEscape"], unfollowed := true, recurses := true, named := ["internal/strconv.uint64pow10", "math/bits.deBruijn32tab", "math/bits.deBruijn64tab"], loops := true, plainKeys := false, apart := false, laid := [("math/bits.deBruijn32tab", laid_math_bits_deBruijn32tab), ("math/bits.deBruijn64tab", laid_math_bits_deBruijn64tab), ("internal/strconv.uint64pow10", laid_internal_strconv_uint64pow10)], narrowed := true }
def SchemeRoundUptoSaid : Prop := schemeRoundUptoRow.holds Tryd.pinned (OpenSpec.upto schemeRoundSpec)

end Rows
end Go.Proofs.YtbhicpjhijondaaDoor
