/-
  NARROWER THAN 'FOR EVERY INPUT', by the rows' own cells (each row's printed sentence says how): SplitPlaces: loops, laid · SplitFuels: laid · ElimTexts: laid · ElimSolves: loops, laid · ElimBetween: laid · ElimErrors: laid · TableNumbers: laid · TableTwins: laid · ElimInduct: loops, laid · ElimArden: loops, laid · ElimLaws: loops, laid · TableRuns: laid.
  DERIVED. THE GIVEN ROWS OF THIS SEAT. 12 by the template 'for every input the law returns true; each argument reads behind the call as it read before'; 0 by the template 'total and deterministic' (their statements: YtfpfloahkibcgaaGreatDoorTotals.lean).
  GIVEN WITH THE SEED: the statements are not yours to turn. If you find one false, say at which input.
  Laid BY PROGRAM, IN A SANDBOX (cutbox-rows.mjs): the forced cells as the released guide's own fill.sh prints them over the translation d3e1110dc6eb13ed… (all of the seat's roots in one cut). By AI agents, Wed Nov 11 2026. No macro, syntax, notation, axiom, sorry.
-/
import Derived.Test.YtfpfloahkibcgaaGreatDoorChecked
import GoSem.Claim
import GoSem.ClaimJoined
import GoSem.ClaimMapViews
import Derived.JoinedTies
import Derived.KernelRfl
namespace Go.Proofs.YtfpfloahkibcgaaGreatDoor
/- THE CELL 'sum', in the pinned program and in every row, IS THE sha256 OF THE DUMP (.gsa) THAT YtfpfloahkibcgaaGreatDoorProg.lean LOADS. Nothing in Lean hashes anything: it is a label: what it is worth is what the hold of that sum in a sandbox is worth. -/
noncomputable def Tryz.pinned : Pinned := { name := "ytfpfloahkibcgaagreatdoor", sum := "d3e1110dc6eb13edeb0b044e88a738d8192e68978cf3d4467de00fb290422bc0", checked := Tryz.checked }
namespace Rows
def none {H : Type} : Left H := { results := [], args := [] }

/- WHAT THE LISTED PACKAGE-LEVEL VARIABLES READ AS WHEN THE CALL BEGINS. Each datum BY PROGRAM (the guide's laid-datum.mjs) off the statement by which the dump's own 'gosem.cut.vars' lays the variable. In a bare row this is a premise. The card (YtfpfloahkibcgaaGreatDoorCards.lean) ties it to the program's text. -/
def laid_math_bits_deBruijn32tab {H : Type} : DataW H := .agg [.lit (.int .u8 0), .lit (.int .u8 1), .lit (.int .u8 28), .lit (.int .u8 2), .lit (.int .u8 29), .lit (.int .u8 14), .lit (.int .u8 24), .lit (.int .u8 3), .lit (.int .u8 30), .lit (.int .u8 22), .lit (.int .u8 20), .lit (.int .u8 15), .lit (.int .u8 25), .lit (.int .u8 17), .lit (.int .u8 4), .lit (.int .u8 8), .lit (.int .u8 31), .lit (.int .u8 27), .lit (.int .u8 13), .lit (.int .u8 23), .lit (.int .u8 21), .lit (.int .u8 19), .lit (.int .u8 16), .lit (.int .u8 7), .lit (.int .u8 26), .lit (.int .u8 12), .lit (.int .u8 18), .lit (.int .u8 6), .lit (.int .u8 11), .lit (.int .u8 5), .lit (.int .u8 10), .lit (.int .u8 9)]
def laid_math_bits_deBruijn64tab {H : Type} : DataW H := .agg [.lit (.int .u8 0), .lit (.int .u8 1), .lit (.int .u8 56), .lit (.int .u8 2), .lit (.int .u8 57), .lit (.int .u8 49), .lit (.int .u8 28), .lit (.int .u8 3), .lit (.int .u8 61), .lit (.int .u8 58), .lit (.int .u8 42), .lit (.int .u8 50), .lit (.int .u8 38), .lit (.int .u8 29), .lit (.int .u8 17), .lit (.int .u8 4), .lit (.int .u8 62), .lit (.int .u8 47), .lit (.int .u8 59), .lit (.int .u8 36), .lit (.int .u8 45), .lit (.int .u8 43), .lit (.int .u8 51), .lit (.int .u8 22), .lit (.int .u8 53), .lit (.int .u8 39), .lit (.int .u8 33), .lit (.int .u8 30), .lit (.int .u8 24), .lit (.int .u8 18), .lit (.int .u8 12), .lit (.int .u8 5), .lit (.int .u8 63), .lit (.int .u8 55), .lit (.int .u8 48), .lit (.int .u8 27), .lit (.int .u8 60), .lit (.int .u8 41), .lit (.int .u8 37), .lit (.int .u8 16), .lit (.int .u8 46), .lit (.int .u8 35), .lit (.int .u8 44), .lit (.int .u8 21), .lit (.int .u8 52), .lit (.int .u8 32), .lit (.int .u8 23), .lit (.int .u8 11), .lit (.int .u8 54), .lit (.int .u8 26), .lit (.int .u8 40), .lit (.int .u8 15), .lit (.int .u8 34), .lit (.int .u8 20), .lit (.int .u8 31), .lit (.int .u8 10), .lit (.int .u8 25), .lit (.int .u8 14), .lit (.int .u8 19), .lit (.int .u8 9), .lit (.int .u8 13), .lit (.int .u8 8), .lit (.int .u8 7), .lit (.int .u8 6)]
def laid_internal_strconv_uint64pow10 {H : Type} : DataW H := .agg [.lit (.int .u64 1), .lit (.int .u64 10), .lit (.int .u64 100), .lit (.int .u64 1000), .lit (.int .u64 10000), .lit (.int .u64 100000), .lit (.int .u64 1000000), .lit (.int .u64 10000000), .lit (.int .u64 100000000), .lit (.int .u64 1000000000), .lit (.int .u64 10000000000), .lit (.int .u64 100000000000), .lit (.int .u64 1000000000000), .lit (.int .u64 10000000000000), .lit (.int .u64 100000000000000), .lit (.int .u64 1000000000000000), .lit (.int .u64 10000000000000000), .lit (.int .u64 100000000000000000), .lit (.int .u64 1000000000000000000), .lit (.int .u64 10000000000000000000)]

/-- 'periscopelaw09.SplitPlaces': WHATEVER THE INPUT: true; the input reads as it did. -/
def splitPlacesSpec : ChangeSpec := { name := "splitPlaces", fn := fun _ => fun
  | [d1, d2, d3, d4] => { results := [.lit (.bool true)], args := [d1, d2, d3, d4] }
  | _ => none }
def splitPlacesRow : OpenClaim := { program := "ytfpfloahkibcgaagreatdoor", sum := "d3e1110dc6eb13edeb0b044e88a738d8192e68978cf3d4467de00fb290422bc0", func := "periscope/periscopelaw09.SplitPlaces", spec := "splitPlaces", inPlace := ["internal/abi.NoEscape", "internal/bytealg.MakeNoZero", "sync/atomic.StoreInt64", "sync/atomic.LoadInt64", "sync/atomic.CompareAndSwapInt64", "sync/atomic.AddInt64"], unfollowed := true, recurses := true, named := ["internal/strconv.uint64pow10", "math/bits.deBruijn32tab", "math/bits.deBruijn64tab"], loops := true, apart := false, laid := [("math/bits.deBruijn32tab", laid_math_bits_deBruijn32tab), ("math/bits.deBruijn64tab", laid_math_bits_deBruijn64tab), ("internal/strconv.uint64pow10", laid_internal_strconv_uint64pow10)] }
def SplitPlacesSaid : Prop := splitPlacesRow.holds Tryz.pinned (OpenSpec.ofChange splitPlacesSpec)

/-- ITS FALSE NEIGHBOUR: 'it returns false'. Refute it at one input. -/
def splitPlacesWrong : ChangeSpec := { name := "splitPlaces", fn := fun _ => fun
  | [d1, d2, d3, d4] => { results := [.lit (.bool false)], args := [d1, d2, d3, d4] }
  | _ => none }
def SplitPlacesWrongFalsely : Prop := splitPlacesRow.holds Tryz.pinned (OpenSpec.ofChange splitPlacesWrong)

/-- 'periscopelaw09.SplitFuels': WHATEVER THE INPUT: true; the input reads as it did. -/
def splitFuelsSpec : ChangeSpec := { name := "splitFuels", fn := fun _ => fun
  | [d1, d2] => { results := [.lit (.bool true)], args := [d1, d2] }
  | _ => none }
def splitFuelsRow : OpenClaim := { program := "ytfpfloahkibcgaagreatdoor", sum := "d3e1110dc6eb13edeb0b044e88a738d8192e68978cf3d4467de00fb290422bc0", func := "periscope/periscopelaw09.SplitFuels", spec := "splitFuels", inPlace := ["internal/abi.NoEscape", "internal/bytealg.MakeNoZero", "sync/atomic.StoreInt64", "sync/atomic.LoadInt64", "sync/atomic.CompareAndSwapInt64", "sync/atomic.AddInt64"], unfollowed := true, recurses := true, named := ["internal/strconv.uint64pow10", "math/bits.deBruijn32tab", "math/bits.deBruijn64tab"], apart := false, laid := [("math/bits.deBruijn32tab", laid_math_bits_deBruijn32tab), ("math/bits.deBruijn64tab", laid_math_bits_deBruijn64tab), ("internal/strconv.uint64pow10", laid_internal_strconv_uint64pow10)] }
def SplitFuelsSaid : Prop := splitFuelsRow.holds Tryz.pinned (OpenSpec.ofChange splitFuelsSpec)

/-- ITS FALSE NEIGHBOUR: 'it returns false'. Refute it at one input. -/
def splitFuelsWrong : ChangeSpec := { name := "splitFuels", fn := fun _ => fun
  | [d1, d2] => { results := [.lit (.bool false)], args := [d1, d2] }
  | _ => none }
def SplitFuelsWrongFalsely : Prop := splitFuelsRow.holds Tryz.pinned (OpenSpec.ofChange splitFuelsWrong)

/-- 'periscopelaw14.ElimTexts': WHATEVER THE INPUT: true; the input reads as it did. -/
def elimTextsSpec : ChangeSpec := { name := "elimTexts", fn := fun _ => fun
  | [d1, d2] => { results := [.lit (.bool true)], args := [d1, d2] }
  | _ => none }
def elimTextsRow : OpenClaim := { program := "ytfpfloahkibcgaagreatdoor", sum := "d3e1110dc6eb13edeb0b044e88a738d8192e68978cf3d4467de00fb290422bc0", func := "periscope/periscopelaw14.ElimTexts", spec := "elimTexts", inPlace := ["internal/abi.NoEscape", "internal/bytealg.MakeNoZero", "sync/atomic.StoreInt64", "sync/atomic.LoadInt64", "sync/atomic.CompareAndSwapInt64", "sync/atomic.AddInt64"], unfollowed := true, recurses := true, named := ["internal/strconv.uint64pow10", "math/bits.deBruijn32tab", "math/bits.deBruijn64tab"], apart := false, laid := [("math/bits.deBruijn32tab", laid_math_bits_deBruijn32tab), ("math/bits.deBruijn64tab", laid_math_bits_deBruijn64tab), ("internal/strconv.uint64pow10", laid_internal_strconv_uint64pow10)] }
def ElimTextsSaid : Prop := elimTextsRow.holds Tryz.pinned (OpenSpec.ofChange elimTextsSpec)

/-- ITS FALSE NEIGHBOUR: 'it returns false'. Refute it at one input. -/
def elimTextsWrong : ChangeSpec := { name := "elimTexts", fn := fun _ => fun
  | [d1, d2] => { results := [.lit (.bool false)], args := [d1, d2] }
  | _ => none }
def ElimTextsWrongFalsely : Prop := elimTextsRow.holds Tryz.pinned (OpenSpec.ofChange elimTextsWrong)

/-- 'periscopelaw14.ElimSolves': WHATEVER THE INPUT: true; the input reads as it did. -/
def elimSolvesSpec : ChangeSpec := { name := "elimSolves", fn := fun _ => fun
  | [d1, d2, d3] => { results := [.lit (.bool true)], args := [d1, d2, d3] }
  | _ => none }
def elimSolvesRow : OpenClaim := { program := "ytfpfloahkibcgaagreatdoor", sum := "d3e1110dc6eb13edeb0b044e88a738d8192e68978cf3d4467de00fb290422bc0", func := "periscope/periscopelaw14.ElimSolves", spec := "elimSolves", inPlace := ["internal/abi.NoEscape", "internal/bytealg.MakeNoZero", "sync/atomic.StoreInt64", "sync/atomic.LoadInt64", "sync/atomic.CompareAndSwapInt64", "sync/atomic.AddInt64"], unfollowed := true, recurses := true, named := ["internal/strconv.uint64pow10", "math/bits.deBruijn32tab", "math/bits.deBruijn64tab"], loops := true, apart := false, laid := [("math/bits.deBruijn32tab", laid_math_bits_deBruijn32tab), ("math/bits.deBruijn64tab", laid_math_bits_deBruijn64tab), ("internal/strconv.uint64pow10", laid_internal_strconv_uint64pow10)] }
def ElimSolvesSaid : Prop := elimSolvesRow.holds Tryz.pinned (OpenSpec.ofChange elimSolvesSpec)

/-- ITS FALSE NEIGHBOUR: 'it returns false'. Refute it at one input. -/
def elimSolvesWrong : ChangeSpec := { name := "elimSolves", fn := fun _ => fun
  | [d1, d2, d3] => { results := [.lit (.bool false)], args := [d1, d2, d3] }
  | _ => none }
def ElimSolvesWrongFalsely : Prop := elimSolvesRow.holds Tryz.pinned (OpenSpec.ofChange elimSolvesWrong)

/-- 'periscopelaw14.ElimBetween': WHATEVER THE INPUT: true; the input reads as it did. -/
def elimBetweenSpec : ChangeSpec := { name := "elimBetween", fn := fun _ => fun
  | [d1, d2, d3, d4, d5] => { results := [.lit (.bool true)], args := [d1, d2, d3, d4, d5] }
  | _ => none }
def elimBetweenRow : OpenClaim := { program := "ytfpfloahkibcgaagreatdoor", sum := "d3e1110dc6eb13edeb0b044e88a738d8192e68978cf3d4467de00fb290422bc0", func := "periscope/periscopelaw14.ElimBetween", spec := "elimBetween", inPlace := ["internal/abi.NoEscape", "internal/bytealg.MakeNoZero", "sync/atomic.StoreInt64", "sync/atomic.LoadInt64", "sync/atomic.CompareAndSwapInt64", "sync/atomic.AddInt64"], unfollowed := true, recurses := true, named := ["internal/strconv.uint64pow10", "math/bits.deBruijn32tab", "math/bits.deBruijn64tab"], apart := false, laid := [("math/bits.deBruijn32tab", laid_math_bits_deBruijn32tab), ("math/bits.deBruijn64tab", laid_math_bits_deBruijn64tab), ("internal/strconv.uint64pow10", laid_internal_strconv_uint64pow10)] }
def ElimBetweenSaid : Prop := elimBetweenRow.holds Tryz.pinned (OpenSpec.ofChange elimBetweenSpec)

/-- ITS FALSE NEIGHBOUR: 'it returns false'. Refute it at one input. -/
def elimBetweenWrong : ChangeSpec := { name := "elimBetween", fn := fun _ => fun
  | [d1, d2, d3, d4, d5] => { results := [.lit (.bool false)], args := [d1, d2, d3, d4, d5] }
  | _ => none }
def ElimBetweenWrongFalsely : Prop := elimBetweenRow.holds Tryz.pinned (OpenSpec.ofChange elimBetweenWrong)

/-- 'periscopelaw14.ElimErrors': WHATEVER THE INPUT: true; the input reads as it did. -/
def elimErrorsSpec : ChangeSpec := { name := "elimErrors", fn := fun _ => fun
  | [d1, d2, d3] => { results := [.lit (.bool true)], args := [d1, d2, d3] }
  | _ => none }
def elimErrorsRow : OpenClaim := { program := "ytfpfloahkibcgaagreatdoor", sum := "d3e1110dc6eb13edeb0b044e88a738d8192e68978cf3d4467de00fb290422bc0", func := "periscope/periscopelaw14.ElimErrors", spec := "elimErrors", inPlace := ["internal/abi.NoEscape", "internal/bytealg.MakeNoZero", "sync/atomic.StoreInt64", "sync/atomic.LoadInt64", "sync/atomic.CompareAndSwapInt64", "sync/atomic.AddInt64"], unfollowed := true, recurses := true, named := ["internal/strconv.uint64pow10", "math/bits.deBruijn32tab", "math/bits.deBruijn64tab"], apart := false, laid := [("math/bits.deBruijn32tab", laid_math_bits_deBruijn32tab), ("math/bits.deBruijn64tab", laid_math_bits_deBruijn64tab), ("internal/strconv.uint64pow10", laid_internal_strconv_uint64pow10)] }
def ElimErrorsSaid : Prop := elimErrorsRow.holds Tryz.pinned (OpenSpec.ofChange elimErrorsSpec)

/-- ITS FALSE NEIGHBOUR: 'it returns false'. Refute it at one input. -/
def elimErrorsWrong : ChangeSpec := { name := "elimErrors", fn := fun _ => fun
  | [d1, d2, d3] => { results := [.lit (.bool false)], args := [d1, d2, d3] }
  | _ => none }
def ElimErrorsWrongFalsely : Prop := elimErrorsRow.holds Tryz.pinned (OpenSpec.ofChange elimErrorsWrong)

/-- 'periscopelaw12.TableNumbers': WHATEVER THE INPUT: true; the input reads as it did. -/
def tableNumbersSpec : ChangeSpec := { name := "tableNumbers", fn := fun _ => fun
  | [d1, d2] => { results := [.lit (.bool true)], args := [d1, d2] }
  | _ => none }
def tableNumbersRow : OpenClaim := { program := "ytfpfloahkibcgaagreatdoor", sum := "d3e1110dc6eb13edeb0b044e88a738d8192e68978cf3d4467de00fb290422bc0", func := "periscope/periscopelaw12.TableNumbers", spec := "tableNumbers", inPlace := ["internal/abi.NoEscape", "internal/bytealg.MakeNoZero", "sync/atomic.StoreInt64", "sync/atomic.LoadInt64", "sync/atomic.CompareAndSwapInt64", "sync/atomic.AddInt64"], unfollowed := true, recurses := true, named := ["internal/strconv.uint64pow10", "math/bits.deBruijn32tab", "math/bits.deBruijn64tab"], apart := false, laid := [("math/bits.deBruijn32tab", laid_math_bits_deBruijn32tab), ("math/bits.deBruijn64tab", laid_math_bits_deBruijn64tab), ("internal/strconv.uint64pow10", laid_internal_strconv_uint64pow10)] }
def TableNumbersSaid : Prop := tableNumbersRow.holds Tryz.pinned (OpenSpec.ofChange tableNumbersSpec)

/-- ITS FALSE NEIGHBOUR: 'it returns false'. Refute it at one input. -/
def tableNumbersWrong : ChangeSpec := { name := "tableNumbers", fn := fun _ => fun
  | [d1, d2] => { results := [.lit (.bool false)], args := [d1, d2] }
  | _ => none }
def TableNumbersWrongFalsely : Prop := tableNumbersRow.holds Tryz.pinned (OpenSpec.ofChange tableNumbersWrong)

/-- 'periscopelaw12.TableTwins': WHATEVER THE INPUT: true; the input reads as it did. -/
def tableTwinsSpec : ChangeSpec := { name := "tableTwins", fn := fun _ => fun
  | [d1, d2, d3] => { results := [.lit (.bool true)], args := [d1, d2, d3] }
  | _ => none }
def tableTwinsRow : OpenClaim := { program := "ytfpfloahkibcgaagreatdoor", sum := "d3e1110dc6eb13edeb0b044e88a738d8192e68978cf3d4467de00fb290422bc0", func := "periscope/periscopelaw12.TableTwins", spec := "tableTwins", inPlace := ["internal/abi.NoEscape", "internal/bytealg.MakeNoZero", "sync/atomic.StoreInt64", "sync/atomic.LoadInt64", "sync/atomic.CompareAndSwapInt64", "sync/atomic.AddInt64"], unfollowed := true, recurses := true, named := ["internal/strconv.uint64pow10", "math/bits.deBruijn32tab", "math/bits.deBruijn64tab"], apart := false, laid := [("math/bits.deBruijn32tab", laid_math_bits_deBruijn32tab), ("math/bits.deBruijn64tab", laid_math_bits_deBruijn64tab), ("internal/strconv.uint64pow10", laid_internal_strconv_uint64pow10)] }
def TableTwinsSaid : Prop := tableTwinsRow.holds Tryz.pinned (OpenSpec.ofChange tableTwinsSpec)

/-- ITS FALSE NEIGHBOUR: 'it returns false'. Refute it at one input. -/
def tableTwinsWrong : ChangeSpec := { name := "tableTwins", fn := fun _ => fun
  | [d1, d2, d3] => { results := [.lit (.bool false)], args := [d1, d2, d3] }
  | _ => none }
def TableTwinsWrongFalsely : Prop := tableTwinsRow.holds Tryz.pinned (OpenSpec.ofChange tableTwinsWrong)

/-- 'periscopelaw14.ElimInduct': WHATEVER THE INPUT: true; the input reads as it did. -/
def elimInductSpec : ChangeSpec := { name := "elimInduct", fn := fun _ => fun
  | [d1, d2, d3] => { results := [.lit (.bool true)], args := [d1, d2, d3] }
  | _ => none }
def elimInductRow : OpenClaim := { program := "ytfpfloahkibcgaagreatdoor", sum := "d3e1110dc6eb13edeb0b044e88a738d8192e68978cf3d4467de00fb290422bc0", func := "periscope/periscopelaw14.ElimInduct", spec := "elimInduct", inPlace := ["internal/abi.NoEscape", "internal/bytealg.MakeNoZero", "sync/atomic.StoreInt64", "sync/atomic.LoadInt64", "sync/atomic.CompareAndSwapInt64", "sync/atomic.AddInt64"], unfollowed := true, recurses := true, named := ["internal/strconv.uint64pow10", "math/bits.deBruijn32tab", "math/bits.deBruijn64tab"], loops := true, apart := false, laid := [("math/bits.deBruijn32tab", laid_math_bits_deBruijn32tab), ("math/bits.deBruijn64tab", laid_math_bits_deBruijn64tab), ("internal/strconv.uint64pow10", laid_internal_strconv_uint64pow10)] }
def ElimInductSaid : Prop := elimInductRow.holds Tryz.pinned (OpenSpec.ofChange elimInductSpec)

/-- ITS FALSE NEIGHBOUR: 'it returns false'. Refute it at one input. -/
def elimInductWrong : ChangeSpec := { name := "elimInduct", fn := fun _ => fun
  | [d1, d2, d3] => { results := [.lit (.bool false)], args := [d1, d2, d3] }
  | _ => none }
def ElimInductWrongFalsely : Prop := elimInductRow.holds Tryz.pinned (OpenSpec.ofChange elimInductWrong)

/-- 'periscopelaw14.ElimArden': WHATEVER THE INPUT: true; the input reads as it did. -/
def elimArdenSpec : ChangeSpec := { name := "elimArden", fn := fun _ => fun
  | [d1, d2, d3] => { results := [.lit (.bool true)], args := [d1, d2, d3] }
  | _ => none }
def elimArdenRow : OpenClaim := { program := "ytfpfloahkibcgaagreatdoor", sum := "d3e1110dc6eb13edeb0b044e88a738d8192e68978cf3d4467de00fb290422bc0", func := "periscope/periscopelaw14.ElimArden", spec := "elimArden", inPlace := ["internal/abi.NoEscape", "internal/bytealg.MakeNoZero", "sync/atomic.StoreInt64", "sync/atomic.LoadInt64", "sync/atomic.CompareAndSwapInt64", "sync/atomic.AddInt64"], unfollowed := true, recurses := true, named := ["internal/strconv.uint64pow10", "math/bits.deBruijn32tab", "math/bits.deBruijn64tab"], loops := true, apart := false, laid := [("math/bits.deBruijn32tab", laid_math_bits_deBruijn32tab), ("math/bits.deBruijn64tab", laid_math_bits_deBruijn64tab), ("internal/strconv.uint64pow10", laid_internal_strconv_uint64pow10)] }
def ElimArdenSaid : Prop := elimArdenRow.holds Tryz.pinned (OpenSpec.ofChange elimArdenSpec)

/-- ITS FALSE NEIGHBOUR: 'it returns false'. Refute it at one input. -/
def elimArdenWrong : ChangeSpec := { name := "elimArden", fn := fun _ => fun
  | [d1, d2, d3] => { results := [.lit (.bool false)], args := [d1, d2, d3] }
  | _ => none }
def ElimArdenWrongFalsely : Prop := elimArdenRow.holds Tryz.pinned (OpenSpec.ofChange elimArdenWrong)

/-- 'periscopelaw14.ElimLaws': WHATEVER THE INPUT: true; the input reads as it did. -/
def elimLawsSpec : ChangeSpec := { name := "elimLaws", fn := fun _ => fun
  | [d1, d2, d3] => { results := [.lit (.bool true)], args := [d1, d2, d3] }
  | _ => none }
def elimLawsRow : OpenClaim := { program := "ytfpfloahkibcgaagreatdoor", sum := "d3e1110dc6eb13edeb0b044e88a738d8192e68978cf3d4467de00fb290422bc0", func := "periscope/periscopelaw14.ElimLaws", spec := "elimLaws", inPlace := ["internal/abi.NoEscape", "internal/bytealg.MakeNoZero", "sync/atomic.StoreInt64", "sync/atomic.LoadInt64", "sync/atomic.CompareAndSwapInt64", "sync/atomic.AddInt64"], unfollowed := true, recurses := true, named := ["internal/strconv.uint64pow10", "math/bits.deBruijn32tab", "math/bits.deBruijn64tab"], loops := true, apart := false, laid := [("math/bits.deBruijn32tab", laid_math_bits_deBruijn32tab), ("math/bits.deBruijn64tab", laid_math_bits_deBruijn64tab), ("internal/strconv.uint64pow10", laid_internal_strconv_uint64pow10)] }
def ElimLawsSaid : Prop := elimLawsRow.holds Tryz.pinned (OpenSpec.ofChange elimLawsSpec)

/-- ITS FALSE NEIGHBOUR: 'it returns false'. Refute it at one input. -/
def elimLawsWrong : ChangeSpec := { name := "elimLaws", fn := fun _ => fun
  | [d1, d2, d3] => { results := [.lit (.bool false)], args := [d1, d2, d3] }
  | _ => none }
def ElimLawsWrongFalsely : Prop := elimLawsRow.holds Tryz.pinned (OpenSpec.ofChange elimLawsWrong)

/-- 'periscopelaw12.TableRuns': WHATEVER THE INPUT: true; the input reads as it did. -/
def tableRunsSpec : ChangeSpec := { name := "tableRuns", fn := fun _ => fun
  | [d1, d2, d3] => { results := [.lit (.bool true)], args := [d1, d2, d3] }
  | _ => none }
def tableRunsRow : OpenClaim := { program := "ytfpfloahkibcgaagreatdoor", sum := "d3e1110dc6eb13edeb0b044e88a738d8192e68978cf3d4467de00fb290422bc0", func := "periscope/periscopelaw12.TableRuns", spec := "tableRuns", inPlace := ["internal/abi.NoEscape", "internal/bytealg.MakeNoZero", "sync/atomic.StoreInt64", "sync/atomic.LoadInt64", "sync/atomic.CompareAndSwapInt64", "sync/atomic.AddInt64"], unfollowed := true, recurses := true, named := ["internal/strconv.uint64pow10", "math/bits.deBruijn32tab", "math/bits.deBruijn64tab"], apart := false, laid := [("math/bits.deBruijn32tab", laid_math_bits_deBruijn32tab), ("math/bits.deBruijn64tab", laid_math_bits_deBruijn64tab), ("internal/strconv.uint64pow10", laid_internal_strconv_uint64pow10)] }
def TableRunsSaid : Prop := tableRunsRow.holds Tryz.pinned (OpenSpec.ofChange tableRunsSpec)

/-- ITS FALSE NEIGHBOUR: 'it returns false'. Refute it at one input. -/
def tableRunsWrong : ChangeSpec := { name := "tableRuns", fn := fun _ => fun
  | [d1, d2, d3] => { results := [.lit (.bool false)], args := [d1, d2, d3] }
  | _ => none }
def TableRunsWrongFalsely : Prop := tableRunsRow.holds Tryz.pinned (OpenSpec.ofChange tableRunsWrong)

/- THE SECOND FORM. 'bulk': how many values and letters a reading holds, each counted each time it is reached (what is shared counts as often as it is met; a slice's spare places count too). A statement '..UptoSaid' is the law's where the arguments, and the package variables that the reading takes, are together of bulk at most 1048576: NARROWER than '..Said'. Prove '..Said' where nothing that the law and all that it calls make is longer than what came in: it says more and counts as full. Else prove '..UptoSaid'. A law counts once. -/
mutual
def uptoBulk {H : Type} : DataW H → Nat
  | .lit (.string bytes) => bytes.length + 1
  | .lit _ => 1
  | .nil => 1
  | .ptr d => uptoBulk d + 1
  | .slice elems spare => uptoBulkAll elems + uptoBulkAll spare + 1
  | .agg parts => uptoBulkAll parts + 1
  | .iface _ d => uptoBulk d + 1
  | .map entries => uptoBulkEntries entries + 1
  | .held _ => 1
def uptoBulkAll {H : Type} : List (DataW H) → Nat
  | [] => 0
  | d :: r => uptoBulk d + uptoBulkAll r
def uptoBulkEntries {H : Type} : List (Lit × DataW H) → Nat
  | [] => 0
  | x :: r => uptoBulkEntry x + uptoBulkEntries r
def uptoBulkEntry {H : Type} : Lit × DataW H → Nat
  | (.string bytes, d) => bytes.length + uptoBulk d + 1
  | (_, d) => uptoBulk d + 1
 end
def uptoSmall : (H : Type) → List (DataW H) → Bool := fun _ ds => decide (uptoBulkAll ds ≤ 1048576)
def OpenSpec.upto (s : _root_.Go.ChangeSpec) : _root_.Go.OpenSpec := { _root_.Go.OpenSpec.ofChange s with cond := some uptoSmall }

/-- 'periscopelaw09.SplitPlaces', WHERE WHAT IT READS IS OF BULK AT MOST 1048576: true; the input reads as it did. -/
def splitPlacesUptoRow : OpenClaim := { program := "ytfpfloahkibcgaagreatdoor", sum := "d3e1110dc6eb13edeb0b044e88a738d8192e68978cf3d4467de00fb290422bc0", func := "periscope/periscopelaw09.SplitPlaces", spec := "splitPlaces", inPlace := ["internal/abi.NoEscape", "internal/bytealg.MakeNoZero", "sync/atomic.StoreInt64", "sync/atomic.LoadInt64", "sync/atomic.CompareAndSwapInt64", "sync/atomic.AddInt64"], unfollowed := true, recurses := true, named := ["internal/strconv.uint64pow10", "math/bits.deBruijn32tab", "math/bits.deBruijn64tab"], loops := true, apart := false, laid := [("math/bits.deBruijn32tab", laid_math_bits_deBruijn32tab), ("math/bits.deBruijn64tab", laid_math_bits_deBruijn64tab), ("internal/strconv.uint64pow10", laid_internal_strconv_uint64pow10)], narrowed := true }
def SplitPlacesUptoSaid : Prop := splitPlacesUptoRow.holds Tryz.pinned (OpenSpec.upto splitPlacesSpec)

/-- 'periscopelaw09.SplitFuels', WHERE WHAT IT READS IS OF BULK AT MOST 1048576: true; the input reads as it did. -/
def splitFuelsUptoRow : OpenClaim := { program := "ytfpfloahkibcgaagreatdoor", sum := "d3e1110dc6eb13edeb0b044e88a738d8192e68978cf3d4467de00fb290422bc0", func := "periscope/periscopelaw09.SplitFuels", spec := "splitFuels", inPlace := ["internal/abi.NoEscape", "internal/bytealg.MakeNoZero", "sync/atomic.StoreInt64", "sync/atomic.LoadInt64", "sync/atomic.CompareAndSwapInt64", "sync/atomic.AddInt64"], unfollowed := true, recurses := true, named := ["internal/strconv.uint64pow10", "math/bits.deBruijn32tab", "math/bits.deBruijn64tab"], apart := false, laid := [("math/bits.deBruijn32tab", laid_math_bits_deBruijn32tab), ("math/bits.deBruijn64tab", laid_math_bits_deBruijn64tab), ("internal/strconv.uint64pow10", laid_internal_strconv_uint64pow10)], narrowed := true }
def SplitFuelsUptoSaid : Prop := splitFuelsUptoRow.holds Tryz.pinned (OpenSpec.upto splitFuelsSpec)

/-- 'periscopelaw14.ElimTexts', WHERE WHAT IT READS IS OF BULK AT MOST 1048576: true; the input reads as it did. -/
def elimTextsUptoRow : OpenClaim := { program := "ytfpfloahkibcgaagreatdoor", sum := "d3e1110dc6eb13edeb0b044e88a738d8192e68978cf3d4467de00fb290422bc0", func := "periscope/periscopelaw14.ElimTexts", spec := "elimTexts", inPlace := ["internal/abi.NoEscape", "internal/bytealg.MakeNoZero", "sync/atomic.StoreInt64", "sync/atomic.LoadInt64", "sync/atomic.CompareAndSwapInt64", "sync/atomic.AddInt64"], unfollowed := true, recurses := true, named := ["internal/strconv.uint64pow10", "math/bits.deBruijn32tab", "math/bits.deBruijn64tab"], apart := false, laid := [("math/bits.deBruijn32tab", laid_math_bits_deBruijn32tab), ("math/bits.deBruijn64tab", laid_math_bits_deBruijn64tab), ("internal/strconv.uint64pow10", laid_internal_strconv_uint64pow10)], narrowed := true }
def ElimTextsUptoSaid : Prop := elimTextsUptoRow.holds Tryz.pinned (OpenSpec.upto elimTextsSpec)

/-- 'periscopelaw14.ElimSolves', WHERE WHAT IT READS IS OF BULK AT MOST 1048576: true; the input reads as it did. -/
def elimSolvesUptoRow : OpenClaim := { program := "ytfpfloahkibcgaagreatdoor", sum := "d3e1110dc6eb13edeb0b044e88a738d8192e68978cf3d4467de00fb290422bc0", func := "periscope/periscopelaw14.ElimSolves", spec := "elimSolves", inPlace := ["internal/abi.NoEscape", "internal/bytealg.MakeNoZero", "sync/atomic.StoreInt64", "sync/atomic.LoadInt64", "sync/atomic.CompareAndSwapInt64", "sync/atomic.AddInt64"], unfollowed := true, recurses := true, named := ["internal/strconv.uint64pow10", "math/bits.deBruijn32tab", "math/bits.deBruijn64tab"], loops := true, apart := false, laid := [("math/bits.deBruijn32tab", laid_math_bits_deBruijn32tab), ("math/bits.deBruijn64tab", laid_math_bits_deBruijn64tab), ("internal/strconv.uint64pow10", laid_internal_strconv_uint64pow10)], narrowed := true }
def ElimSolvesUptoSaid : Prop := elimSolvesUptoRow.holds Tryz.pinned (OpenSpec.upto elimSolvesSpec)

/-- 'periscopelaw14.ElimBetween', WHERE WHAT IT READS IS OF BULK AT MOST 1048576: true; the input reads as it did. -/
def elimBetweenUptoRow : OpenClaim := { program := "ytfpfloahkibcgaagreatdoor", sum := "d3e1110dc6eb13edeb0b044e88a738d8192e68978cf3d4467de00fb290422bc0", func := "periscope/periscopelaw14.ElimBetween", spec := "elimBetween", inPlace := ["internal/abi.NoEscape", "internal/bytealg.MakeNoZero", "sync/atomic.StoreInt64", "sync/atomic.LoadInt64", "sync/atomic.CompareAndSwapInt64", "sync/atomic.AddInt64"], unfollowed := true, recurses := true, named := ["internal/strconv.uint64pow10", "math/bits.deBruijn32tab", "math/bits.deBruijn64tab"], apart := false, laid := [("math/bits.deBruijn32tab", laid_math_bits_deBruijn32tab), ("math/bits.deBruijn64tab", laid_math_bits_deBruijn64tab), ("internal/strconv.uint64pow10", laid_internal_strconv_uint64pow10)], narrowed := true }
def ElimBetweenUptoSaid : Prop := elimBetweenUptoRow.holds Tryz.pinned (OpenSpec.upto elimBetweenSpec)

/-- 'periscopelaw14.ElimErrors', WHERE WHAT IT READS IS OF BULK AT MOST 1048576: true; the input reads as it did. -/
def elimErrorsUptoRow : OpenClaim := { program := "ytfpfloahkibcgaagreatdoor", sum := "d3e1110dc6eb13edeb0b044e88a738d8192e68978cf3d4467de00fb290422bc0", func := "periscope/periscopelaw14.ElimErrors", spec := "elimErrors", inPlace := ["internal/abi.NoEscape", "internal/bytealg.MakeNoZero", "sync/atomic.StoreInt64", "sync/atomic.LoadInt64", "sync/atomic.CompareAndSwapInt64", "sync/atomic.AddInt64"], unfollowed := true, recurses := true, named := ["internal/strconv.uint64pow10", "math/bits.deBruijn32tab", "math/bits.deBruijn64tab"], apart := false, laid := [("math/bits.deBruijn32tab", laid_math_bits_deBruijn32tab), ("math/bits.deBruijn64tab", laid_math_bits_deBruijn64tab), ("internal/strconv.uint64pow10", laid_internal_strconv_uint64pow10)], narrowed := true }
def ElimErrorsUptoSaid : Prop := elimErrorsUptoRow.holds Tryz.pinned (OpenSpec.upto elimErrorsSpec)

/-- 'periscopelaw12.TableNumbers', WHERE WHAT IT READS IS OF BULK AT MOST 1048576: true; the input reads as it did. -/
def tableNumbersUptoRow : OpenClaim := { program := "ytfpfloahkibcgaagreatdoor", sum := "d3e1110dc6eb13edeb0b044e88a738d8192e68978cf3d4467de00fb290422bc0", func := "periscope/periscopelaw12.TableNumbers", spec := "tableNumbers", inPlace := ["internal/abi.NoEscape", "internal/bytealg.MakeNoZero", "sync/atomic.StoreInt64", "sync/atomic.LoadInt64", "sync/atomic.CompareAndSwapInt64", "sync/atomic.AddInt64"], unfollowed := true, recurses := true, named := ["internal/strconv.uint64pow10", "math/bits.deBruijn32tab", "math/bits.deBruijn64tab"], apart := false, laid := [("math/bits.deBruijn32tab", laid_math_bits_deBruijn32tab), ("math/bits.deBruijn64tab", laid_math_bits_deBruijn64tab), ("internal/strconv.uint64pow10", laid_internal_strconv_uint64pow10)], narrowed := true }
def TableNumbersUptoSaid : Prop := tableNumbersUptoRow.holds Tryz.pinned (OpenSpec.upto tableNumbersSpec)

/-- 'periscopelaw12.TableTwins', WHERE WHAT IT READS IS OF BULK AT MOST 1048576: true; the input reads as it did. -/
def tableTwinsUptoRow : OpenClaim := { program := "ytfpfloahkibcgaagreatdoor", sum := "d3e1110dc6eb13edeb0b044e88a738d8192e68978cf3d4467de00fb290422bc0", func := "periscope/periscopelaw12.TableTwins", spec := "tableTwins", inPlace := ["internal/abi.NoEscape", "internal/bytealg.MakeNoZero", "sync/atomic.StoreInt64", "sync/atomic.LoadInt64", "sync/atomic.CompareAndSwapInt64", "sync/atomic.AddInt64"], unfollowed := true, recurses := true, named := ["internal/strconv.uint64pow10", "math/bits.deBruijn32tab", "math/bits.deBruijn64tab"], apart := false, laid := [("math/bits.deBruijn32tab", laid_math_bits_deBruijn32tab), ("math/bits.deBruijn64tab", laid_math_bits_deBruijn64tab), ("internal/strconv.uint64pow10", laid_internal_strconv_uint64pow10)], narrowed := true }
def TableTwinsUptoSaid : Prop := tableTwinsUptoRow.holds Tryz.pinned (OpenSpec.upto tableTwinsSpec)

/-- 'periscopelaw14.ElimInduct', WHERE WHAT IT READS IS OF BULK AT MOST 1048576: true; the input reads as it did. -/
def elimInductUptoRow : OpenClaim := { program := "ytfpfloahkibcgaagreatdoor", sum := "d3e1110dc6eb13edeb0b044e88a738d8192e68978cf3d4467de00fb290422bc0", func := "periscope/periscopelaw14.ElimInduct", spec := "elimInduct", inPlace := ["internal/abi.NoEscape", "internal/bytealg.MakeNoZero", "sync/atomic.StoreInt64", "sync/atomic.LoadInt64", "sync/atomic.CompareAndSwapInt64", "sync/atomic.AddInt64"], unfollowed := true, recurses := true, named := ["internal/strconv.uint64pow10", "math/bits.deBruijn32tab", "math/bits.deBruijn64tab"], loops := true, apart := false, laid := [("math/bits.deBruijn32tab", laid_math_bits_deBruijn32tab), ("math/bits.deBruijn64tab", laid_math_bits_deBruijn64tab), ("internal/strconv.uint64pow10", laid_internal_strconv_uint64pow10)], narrowed := true }
def ElimInductUptoSaid : Prop := elimInductUptoRow.holds Tryz.pinned (OpenSpec.upto elimInductSpec)

/-- 'periscopelaw14.ElimArden', WHERE WHAT IT READS IS OF BULK AT MOST 1048576: true; the input reads as it did. -/
def elimArdenUptoRow : OpenClaim := { program := "ytfpfloahkibcgaagreatdoor", sum := "d3e1110dc6eb13edeb0b044e88a738d8192e68978cf3d4467de00fb290422bc0", func := "periscope/periscopelaw14.ElimArden", spec := "elimArden", inPlace := ["internal/abi.NoEscape", "internal/bytealg.MakeNoZero", "sync/atomic.StoreInt64", "sync/atomic.LoadInt64", "sync/atomic.CompareAndSwapInt64", "sync/atomic.AddInt64"], unfollowed := true, recurses := true, named := ["internal/strconv.uint64pow10", "math/bits.deBruijn32tab", "math/bits.deBruijn64tab"], loops := true, apart := false, laid := [("math/bits.deBruijn32tab", laid_math_bits_deBruijn32tab), ("math/bits.deBruijn64tab", laid_math_bits_deBruijn64tab), ("internal/strconv.uint64pow10", laid_internal_strconv_uint64pow10)], narrowed := true }
def ElimArdenUptoSaid : Prop := elimArdenUptoRow.holds Tryz.pinned (OpenSpec.upto elimArdenSpec)

/-- 'periscopelaw14.ElimLaws', WHERE WHAT IT READS IS OF BULK AT MOST 1048576: true; the input reads as it did. -/
def elimLawsUptoRow : OpenClaim := { program := "ytfpfloahkibcgaagreatdoor", sum := "d3e1110dc6eb13edeb0b044e88a738d8192e68978cf3d4467de00fb290422bc0", func := "periscope/periscopelaw14.ElimLaws", spec := "elimLaws", inPlace := ["internal/abi.NoEscape", "internal/bytealg.MakeNoZero", "sync/atomic.StoreInt64", "sync/atomic.LoadInt64", "sync/atomic.CompareAndSwapInt64", "sync/atomic.AddInt64"], unfollowed := true, recurses := true, named := ["internal/strconv.uint64pow10", "math/bits.deBruijn32tab", "math/bits.deBruijn64tab"], loops := true, apart := false, laid := [("math/bits.deBruijn32tab", laid_math_bits_deBruijn32tab), ("math/bits.deBruijn64tab", laid_math_bits_deBruijn64tab), ("internal/strconv.uint64pow10", laid_internal_strconv_uint64pow10)], narrowed := true }
def ElimLawsUptoSaid : Prop := elimLawsUptoRow.holds Tryz.pinned (OpenSpec.upto elimLawsSpec)

/-- 'periscopelaw12.TableRuns', WHERE WHAT IT READS IS OF BULK AT MOST 1048576: true; the input reads as it did. -/
def tableRunsUptoRow : OpenClaim := { program := "ytfpfloahkibcgaagreatdoor", sum := "d3e1110dc6eb13edeb0b044e88a738d8192e68978cf3d4467de00fb290422bc0", func := "periscope/periscopelaw12.TableRuns", spec := "tableRuns", inPlace := ["internal/abi.NoEscape", "internal/bytealg.MakeNoZero", "sync/atomic.StoreInt64", "sync/atomic.LoadInt64", "sync/atomic.CompareAndSwapInt64", "sync/atomic.AddInt64"], unfollowed := true, recurses := true, named := ["internal/strconv.uint64pow10", "math/bits.deBruijn32tab", "math/bits.deBruijn64tab"], apart := false, laid := [("math/bits.deBruijn32tab", laid_math_bits_deBruijn32tab), ("math/bits.deBruijn64tab", laid_math_bits_deBruijn64tab), ("internal/strconv.uint64pow10", laid_internal_strconv_uint64pow10)], narrowed := true }
def TableRunsUptoSaid : Prop := tableRunsUptoRow.holds Tryz.pinned (OpenSpec.upto tableRunsSpec)

end Rows
end Go.Proofs.YtfpfloahkibcgaaGreatDoor
