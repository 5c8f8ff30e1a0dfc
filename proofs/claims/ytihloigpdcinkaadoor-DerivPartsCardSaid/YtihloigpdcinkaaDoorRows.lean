/-
  NARROWER THAN 'FOR EVERY INPUT', by the rows' own cells (each row's printed sentence says how): ReOrders: loops, laid · ReTexts: loops, laid · ReWiths: loops, laid · ReKeys: loops, laid · DerivWords: laid · DerivTexts: loops, laid · DerivRules: loops, laid · DerivParts: loops, laid.
  DERIVED. THE GIVEN ROWS OF THIS SEAT. 8 by the template 'for every input the law returns true; each argument reads behind the call as it read before'; 0 by the template 'total and deterministic' (their statements: YtihloigpdcinkaaDoorTotals.lean).
  GIVEN WITH THE SEED: the statements are not yours to turn. If you find one false, say at which input.
  Laid BY PROGRAM, IN A SANDBOX (cutbox-rows.mjs): the forced cells as the released guide's own fill.sh prints them over the translation e102d2336d9ddd22… (all of the seat's roots in one cut). By AI agents, Wed Nov 11 2026. No macro, syntax, notation, axiom, sorry.
-/
import Derived.Test.YtihloigpdcinkaaDoorChecked
import GoSem.Claim
import GoSem.ClaimJoined
import GoSem.ClaimMapViews
import Derived.JoinedTies
import Derived.KernelRfl
namespace Go.Proofs.YtihloigpdcinkaaDoor
/- THE CELL 'sum', in the pinned program and in every row, IS THE sha256 OF THE DUMP (.gsa) THAT YtihloigpdcinkaaDoorProg.lean LOADS. Nothing in Lean hashes anything: it is a label: what it is worth is what the hold of that sum in a sandbox is worth. -/
noncomputable def Tryd.pinned : Pinned := { name := "ytihloigpdcinkaadoor", sum := "e102d2336d9ddd228fd5248287b5cb5ba61a751a764231446215d7ee5c9c013e", checked := Tryd.checked }
namespace Rows
def none {H : Type} : Left H := { results := [], args := [] }

/- WHAT THE LISTED PACKAGE-LEVEL VARIABLES READ AS WHEN THE CALL BEGINS. Each datum BY PROGRAM (the guide's laid-datum.mjs) off the statement by which the dump's own 'gosem.cut.vars' lays the variable. In a bare row this is a premise. The card (YtihloigpdcinkaaDoorCards.lean) ties it to the program's text. -/
def laid_math_bits_deBruijn32tab {H : Type} : DataW H := .agg [.lit (.int .u8 0), .lit (.int .u8 1), .lit (.int .u8 28), .lit (.int .u8 2), .lit (.int .u8 29), .lit (.int .u8 14), .lit (.int .u8 24), .lit (.int .u8 3), .lit (.int .u8 30), .lit (.int .u8 22), .lit (.int .u8 20), .lit (.int .u8 15), .lit (.int .u8 25), .lit (.int .u8 17), .lit (.int .u8 4), .lit (.int .u8 8), .lit (.int .u8 31), .lit (.int .u8 27), .lit (.int .u8 13), .lit (.int .u8 23), .lit (.int .u8 21), .lit (.int .u8 19), .lit (.int .u8 16), .lit (.int .u8 7), .lit (.int .u8 26), .lit (.int .u8 12), .lit (.int .u8 18), .lit (.int .u8 6), .lit (.int .u8 11), .lit (.int .u8 5), .lit (.int .u8 10), .lit (.int .u8 9)]
def laid_math_bits_deBruijn64tab {H : Type} : DataW H := .agg [.lit (.int .u8 0), .lit (.int .u8 1), .lit (.int .u8 56), .lit (.int .u8 2), .lit (.int .u8 57), .lit (.int .u8 49), .lit (.int .u8 28), .lit (.int .u8 3), .lit (.int .u8 61), .lit (.int .u8 58), .lit (.int .u8 42), .lit (.int .u8 50), .lit (.int .u8 38), .lit (.int .u8 29), .lit (.int .u8 17), .lit (.int .u8 4), .lit (.int .u8 62), .lit (.int .u8 47), .lit (.int .u8 59), .lit (.int .u8 36), .lit (.int .u8 45), .lit (.int .u8 43), .lit (.int .u8 51), .lit (.int .u8 22), .lit (.int .u8 53), .lit (.int .u8 39), .lit (.int .u8 33), .lit (.int .u8 30), .lit (.int .u8 24), .lit (.int .u8 18), .lit (.int .u8 12), .lit (.int .u8 5), .lit (.int .u8 63), .lit (.int .u8 55), .lit (.int .u8 48), .lit (.int .u8 27), .lit (.int .u8 60), .lit (.int .u8 41), .lit (.int .u8 37), .lit (.int .u8 16), .lit (.int .u8 46), .lit (.int .u8 35), .lit (.int .u8 44), .lit (.int .u8 21), .lit (.int .u8 52), .lit (.int .u8 32), .lit (.int .u8 23), .lit (.int .u8 11), .lit (.int .u8 54), .lit (.int .u8 26), .lit (.int .u8 40), .lit (.int .u8 15), .lit (.int .u8 34), .lit (.int .u8 20), .lit (.int .u8 31), .lit (.int .u8 10), .lit (.int .u8 25), .lit (.int .u8 14), .lit (.int .u8 19), .lit (.int .u8 9), .lit (.int .u8 13), .lit (.int .u8 8), .lit (.int .u8 7), .lit (.int .u8 6)]
def laid_internal_strconv_uint64pow10 {H : Type} : DataW H := .agg [.lit (.int .u64 1), .lit (.int .u64 10), .lit (.int .u64 100), .lit (.int .u64 1000), .lit (.int .u64 10000), .lit (.int .u64 100000), .lit (.int .u64 1000000), .lit (.int .u64 10000000), .lit (.int .u64 100000000), .lit (.int .u64 1000000000), .lit (.int .u64 10000000000), .lit (.int .u64 100000000000), .lit (.int .u64 1000000000000), .lit (.int .u64 10000000000000), .lit (.int .u64 100000000000000), .lit (.int .u64 1000000000000000), .lit (.int .u64 10000000000000000), .lit (.int .u64 100000000000000000), .lit (.int .u64 1000000000000000000), .lit (.int .u64 10000000000000000000)]

/-- 'periscopelaw03.ReOrders': WHATEVER THE INPUT: true; the input reads as it did. -/
def reOrdersSpec : ChangeSpec := { name := "reOrders", fn := fun _ => fun
  | [d1, d2] => { results := [.lit (.bool true)], args := [d1, d2] }
  | _ => none }
def reOrdersRow : OpenClaim := { program := "ytihloigpdcinkaadoor", sum := "e102d2336d9ddd228fd5248287b5cb5ba61a751a764231446215d7ee5c9c013e", func := "periscope/periscopelaw03.ReOrders", spec := "reOrders", inPlace := ["internal/abi.NoEscape", "internal/bytealg.MakeNoZero"], unfollowed := true, recurses := true, named := ["internal/strconv.uint64pow10", "math/bits.deBruijn32tab", "math/bits.deBruijn64tab"], loops := true, apart := false, laid := [("math/bits.deBruijn32tab", laid_math_bits_deBruijn32tab), ("math/bits.deBruijn64tab", laid_math_bits_deBruijn64tab), ("internal/strconv.uint64pow10", laid_internal_strconv_uint64pow10)] }
def ReOrdersSaid : Prop := reOrdersRow.holds Tryd.pinned (OpenSpec.ofChange reOrdersSpec)

/-- ITS FALSE NEIGHBOUR: 'it returns false'. Refute it at one input. -/
def reOrdersWrong : ChangeSpec := { name := "reOrders", fn := fun _ => fun
  | [d1, d2] => { results := [.lit (.bool false)], args := [d1, d2] }
  | _ => none }
def ReOrdersWrongFalsely : Prop := reOrdersRow.holds Tryd.pinned (OpenSpec.ofChange reOrdersWrong)

/-- 'periscopelaw03.ReTexts': WHATEVER THE INPUT: true; the input reads as it did. -/
def reTextsSpec : ChangeSpec := { name := "reTexts", fn := fun _ => fun
  | [d1, d2] => { results := [.lit (.bool true)], args := [d1, d2] }
  | _ => none }
def reTextsRow : OpenClaim := { program := "ytihloigpdcinkaadoor", sum := "e102d2336d9ddd228fd5248287b5cb5ba61a751a764231446215d7ee5c9c013e", func := "periscope/periscopelaw03.ReTexts", spec := "reTexts", inPlace := ["internal/abi.NoEscape", "internal/bytealg.MakeNoZero"], unfollowed := true, recurses := true, named := ["internal/strconv.uint64pow10", "math/bits.deBruijn32tab", "math/bits.deBruijn64tab"], loops := true, apart := false, laid := [("math/bits.deBruijn32tab", laid_math_bits_deBruijn32tab), ("math/bits.deBruijn64tab", laid_math_bits_deBruijn64tab), ("internal/strconv.uint64pow10", laid_internal_strconv_uint64pow10)] }
def ReTextsSaid : Prop := reTextsRow.holds Tryd.pinned (OpenSpec.ofChange reTextsSpec)

/-- ITS FALSE NEIGHBOUR: 'it returns false'. Refute it at one input. -/
def reTextsWrong : ChangeSpec := { name := "reTexts", fn := fun _ => fun
  | [d1, d2] => { results := [.lit (.bool false)], args := [d1, d2] }
  | _ => none }
def ReTextsWrongFalsely : Prop := reTextsRow.holds Tryd.pinned (OpenSpec.ofChange reTextsWrong)

/-- 'periscopelaw03.ReWiths': WHATEVER THE INPUT: true; the input reads as it did. -/
def reWithsSpec : ChangeSpec := { name := "reWiths", fn := fun _ => fun
  | [d1, d2] => { results := [.lit (.bool true)], args := [d1, d2] }
  | _ => none }
def reWithsRow : OpenClaim := { program := "ytihloigpdcinkaadoor", sum := "e102d2336d9ddd228fd5248287b5cb5ba61a751a764231446215d7ee5c9c013e", func := "periscope/periscopelaw03.ReWiths", spec := "reWiths", inPlace := ["internal/abi.NoEscape", "internal/bytealg.MakeNoZero"], unfollowed := true, recurses := true, named := ["internal/strconv.uint64pow10", "math/bits.deBruijn32tab", "math/bits.deBruijn64tab"], loops := true, apart := false, laid := [("math/bits.deBruijn32tab", laid_math_bits_deBruijn32tab), ("math/bits.deBruijn64tab", laid_math_bits_deBruijn64tab), ("internal/strconv.uint64pow10", laid_internal_strconv_uint64pow10)] }
def ReWithsSaid : Prop := reWithsRow.holds Tryd.pinned (OpenSpec.ofChange reWithsSpec)

/-- ITS FALSE NEIGHBOUR: 'it returns false'. Refute it at one input. -/
def reWithsWrong : ChangeSpec := { name := "reWiths", fn := fun _ => fun
  | [d1, d2] => { results := [.lit (.bool false)], args := [d1, d2] }
  | _ => none }
def ReWithsWrongFalsely : Prop := reWithsRow.holds Tryd.pinned (OpenSpec.ofChange reWithsWrong)

/-- 'periscopelaw03.ReKeys': WHATEVER THE INPUT: true; the input reads as it did. -/
def reKeysSpec : ChangeSpec := { name := "reKeys", fn := fun _ => fun
  | [d1, d2] => { results := [.lit (.bool true)], args := [d1, d2] }
  | _ => none }
def reKeysRow : OpenClaim := { program := "ytihloigpdcinkaadoor", sum := "e102d2336d9ddd228fd5248287b5cb5ba61a751a764231446215d7ee5c9c013e", func := "periscope/periscopelaw03.ReKeys", spec := "reKeys", inPlace := ["internal/abi.NoEscape", "internal/bytealg.MakeNoZero"], unfollowed := true, recurses := true, named := ["internal/strconv.uint64pow10", "math/bits.deBruijn32tab", "math/bits.deBruijn64tab"], loops := true, apart := false, laid := [("math/bits.deBruijn32tab", laid_math_bits_deBruijn32tab), ("math/bits.deBruijn64tab", laid_math_bits_deBruijn64tab), ("internal/strconv.uint64pow10", laid_internal_strconv_uint64pow10)] }
def ReKeysSaid : Prop := reKeysRow.holds Tryd.pinned (OpenSpec.ofChange reKeysSpec)

/-- ITS FALSE NEIGHBOUR: 'it returns false'. Refute it at one input. -/
def reKeysWrong : ChangeSpec := { name := "reKeys", fn := fun _ => fun
  | [d1, d2] => { results := [.lit (.bool false)], args := [d1, d2] }
  | _ => none }
def ReKeysWrongFalsely : Prop := reKeysRow.holds Tryd.pinned (OpenSpec.ofChange reKeysWrong)

/-- 'periscopelaw05.DerivWords': WHATEVER THE INPUT: true; the input reads as it did. -/
def derivWordsSpec : ChangeSpec := { name := "derivWords", fn := fun _ => fun
  | [d1, d2, d3] => { results := [.lit (.bool true)], args := [d1, d2, d3] }
  | _ => none }
def derivWordsRow : OpenClaim := { program := "ytihloigpdcinkaadoor", sum := "e102d2336d9ddd228fd5248287b5cb5ba61a751a764231446215d7ee5c9c013e", func := "periscope/periscopelaw05.DerivWords", spec := "derivWords", inPlace := ["internal/abi.NoEscape", "internal/bytealg.MakeNoZero"], unfollowed := true, recurses := true, named := ["internal/strconv.uint64pow10", "math/bits.deBruijn32tab", "math/bits.deBruijn64tab"], apart := false, laid := [("math/bits.deBruijn32tab", laid_math_bits_deBruijn32tab), ("math/bits.deBruijn64tab", laid_math_bits_deBruijn64tab), ("internal/strconv.uint64pow10", laid_internal_strconv_uint64pow10)] }
def DerivWordsSaid : Prop := derivWordsRow.holds Tryd.pinned (OpenSpec.ofChange derivWordsSpec)

/-- ITS FALSE NEIGHBOUR: 'it returns false'. Refute it at one input. -/
def derivWordsWrong : ChangeSpec := { name := "derivWords", fn := fun _ => fun
  | [d1, d2, d3] => { results := [.lit (.bool false)], args := [d1, d2, d3] }
  | _ => none }
def DerivWordsWrongFalsely : Prop := derivWordsRow.holds Tryd.pinned (OpenSpec.ofChange derivWordsWrong)

/-- 'periscopelaw05.DerivTexts': WHATEVER THE INPUT: true; the input reads as it did. -/
def derivTextsSpec : ChangeSpec := { name := "derivTexts", fn := fun _ => fun
  | [d1, d2, d3] => { results := [.lit (.bool true)], args := [d1, d2, d3] }
  | _ => none }
def derivTextsRow : OpenClaim := { program := "ytihloigpdcinkaadoor", sum := "e102d2336d9ddd228fd5248287b5cb5ba61a751a764231446215d7ee5c9c013e", func := "periscope/periscopelaw05.DerivTexts", spec := "derivTexts", inPlace := ["internal/abi.NoEscape", "internal/bytealg.MakeNoZero"], unfollowed := true, recurses := true, named := ["internal/strconv.uint64pow10", "math/bits.deBruijn32tab", "math/bits.deBruijn64tab"], loops := true, apart := false, laid := [("math/bits.deBruijn32tab", laid_math_bits_deBruijn32tab), ("math/bits.deBruijn64tab", laid_math_bits_deBruijn64tab), ("internal/strconv.uint64pow10", laid_internal_strconv_uint64pow10)] }
def DerivTextsSaid : Prop := derivTextsRow.holds Tryd.pinned (OpenSpec.ofChange derivTextsSpec)

/-- ITS FALSE NEIGHBOUR: 'it returns false'. Refute it at one input. -/
def derivTextsWrong : ChangeSpec := { name := "derivTexts", fn := fun _ => fun
  | [d1, d2, d3] => { results := [.lit (.bool false)], args := [d1, d2, d3] }
  | _ => none }
def DerivTextsWrongFalsely : Prop := derivTextsRow.holds Tryd.pinned (OpenSpec.ofChange derivTextsWrong)

/-- 'periscopelaw05.DerivRules': WHATEVER THE INPUT: true; the input reads as it did. -/
def derivRulesSpec : ChangeSpec := { name := "derivRules", fn := fun _ => fun
  | [d1, d2] => { results := [.lit (.bool true)], args := [d1, d2] }
  | _ => none }
def derivRulesRow : OpenClaim := { program := "ytihloigpdcinkaadoor", sum := "e102d2336d9ddd228fd5248287b5cb5ba61a751a764231446215d7ee5c9c013e", func := "periscope/periscopelaw05.DerivRules", spec := "derivRules", inPlace := ["internal/abi.NoEscape", "internal/bytealg.MakeNoZero"], unfollowed := true, recurses := true, named := ["internal/strconv.uint64pow10", "math/bits.deBruijn32tab", "math/bits.deBruijn64tab"], loops := true, apart := false, laid := [("math/bits.deBruijn32tab", laid_math_bits_deBruijn32tab), ("math/bits.deBruijn64tab", laid_math_bits_deBruijn64tab), ("internal/strconv.uint64pow10", laid_internal_strconv_uint64pow10)] }
def DerivRulesSaid : Prop := derivRulesRow.holds Tryd.pinned (OpenSpec.ofChange derivRulesSpec)

/-- ITS FALSE NEIGHBOUR: 'it returns false'. Refute it at one input. -/
def derivRulesWrong : ChangeSpec := { name := "derivRules", fn := fun _ => fun
  | [d1, d2] => { results := [.lit (.bool false)], args := [d1, d2] }
  | _ => none }
def DerivRulesWrongFalsely : Prop := derivRulesRow.holds Tryd.pinned (OpenSpec.ofChange derivRulesWrong)

/-- 'periscopelaw05.DerivParts': WHATEVER THE INPUT: true; the input reads as it did. -/
def derivPartsSpec : ChangeSpec := { name := "derivParts", fn := fun _ => fun
  | [d] => { results := [.lit (.bool true)], args := [d] }
  | _ => none }
def derivPartsRow : OpenClaim := { program := "ytihloigpdcinkaadoor", sum := "e102d2336d9ddd228fd5248287b5cb5ba61a751a764231446215d7ee5c9c013e", func := "periscope/periscopelaw05.DerivParts", spec := "derivParts", inPlace := ["internal/abi.NoEscape", "internal/bytealg.MakeNoZero"], unfollowed := true, recurses := true, named := ["internal/strconv.uint64pow10", "math/bits.deBruijn32tab", "math/bits.deBruijn64tab"], loops := true, apart := false, laid := [("math/bits.deBruijn32tab", laid_math_bits_deBruijn32tab), ("math/bits.deBruijn64tab", laid_math_bits_deBruijn64tab), ("internal/strconv.uint64pow10", laid_internal_strconv_uint64pow10)] }
def DerivPartsSaid : Prop := derivPartsRow.holds Tryd.pinned (OpenSpec.ofChange derivPartsSpec)

/-- ITS FALSE NEIGHBOUR: 'it returns false'. Refute it at one input. -/
def derivPartsWrong : ChangeSpec := { name := "derivParts", fn := fun _ => fun
  | [d] => { results := [.lit (.bool false)], args := [d] }
  | _ => none }
def DerivPartsWrongFalsely : Prop := derivPartsRow.holds Tryd.pinned (OpenSpec.ofChange derivPartsWrong)

/- THE SECOND FORM. 'bulk': how many values and letters a reading holds, each counted each time it is reached (what is shared counts as often as it is met; a slice's spare places count too). A statement '..UptoSaid' is the law's where the arguments, and the package variables that the reading takes, are together of bulk at most 1048576: NARROWER than '..Said'. Prove '..Said' where nothing that the law and all that it calls make is longer than what came in: it says more and counts as full. Else prove '..UptoSaid'. A law counts once. -/
mutual
def uptoBulk {H : Type} : DataW H → Nat
  | .lit (.string bytes) => bytes.length + 1
  | .lit _ => 1
  | .nil => 1
  | .ptr d => uptoBulk d + 1
  | .slice elems spare => uptoBulkAll elems + uptoBulkAll spare + 1
  | .agg parts => uptoBulkAll parts + 1
  | .iface _ d => uptoBulk d + 1
  | .map entries => uptoBulkEntries entries + 1
  | .held _ => 1
def uptoBulkAll {H : Type} : List (DataW H) → Nat
  | [] => 0
  | d :: r => uptoBulk d + uptoBulkAll r
def uptoBulkEntries {H : Type} : List (Lit × DataW H) → Nat
  | [] => 0
  | x :: r => uptoBulkEntry x + uptoBulkEntries r
def uptoBulkEntry {H : Type} : Lit × DataW H → Nat
  | (.string bytes, d) => bytes.length + uptoBulk d + 1
  | (_, d) => uptoBulk d + 1
 end
def uptoSmall : (H : Type) → List (DataW H) → Bool := fun _ ds => decide (uptoBulkAll ds ≤ 1048576)
def OpenSpec.upto (s : _root_.Go.ChangeSpec) : _root_.Go.OpenSpec := { _root_.Go.OpenSpec.ofChange s with cond := some uptoSmall }

/-- 'periscopelaw03.ReOrders', WHERE WHAT IT READS IS OF BULK AT MOST 1048576: true; the input reads as it did. -/
def reOrdersUptoRow : OpenClaim := { program := "ytihloigpdcinkaadoor", sum := "e102d2336d9ddd228fd5248287b5cb5ba61a751a764231446215d7ee5c9c013e", func := "periscope/periscopelaw03.ReOrders", spec := "reOrders", inPlace := ["internal/abi.NoEscape", "internal/bytealg.MakeNoZero"], unfollowed := true, recurses := true, named := ["internal/strconv.uint64pow10", "math/bits.deBruijn32tab", "math/bits.deBruijn64tab"], loops := true, apart := false, laid := [("math/bits.deBruijn32tab", laid_math_bits_deBruijn32tab), ("math/bits.deBruijn64tab", laid_math_bits_deBruijn64tab), ("internal/strconv.uint64pow10", laid_internal_strconv_uint64pow10)], narrowed := true }
def ReOrdersUptoSaid : Prop := reOrdersUptoRow.holds Tryd.pinned (OpenSpec.upto reOrdersSpec)

/-- 'periscopelaw03.ReTexts', WHERE WHAT IT READS IS OF BULK AT MOST 1048576: true; the input reads as it did. -/
def reTextsUptoRow : OpenClaim := { program := "ytihloigpdcinkaadoor", sum := "e102d2336d9ddd228fd5248287b5cb5ba61a751a764231446215d7ee5c9c013e", func := "periscope/periscopelaw03.ReTexts", spec := "reTexts", inPlace := ["internal/abi.NoEscape", "internal/bytealg.MakeNoZero"], unfollowed := true, recurses := true, named := ["internal/strconv.uint64pow10", "math/bits.deBruijn32tab", "math/bits.deBruijn64tab"], loops := true, apart := false, laid := [("math/bits.deBruijn32tab", laid_math_bits_deBruijn32tab), ("math/bits.deBruijn64tab", laid_math_bits_deBruijn64tab), ("internal/strconv.uint64pow10", laid_internal_strconv_uint64pow10)], narrowed := true }
def ReTextsUptoSaid : Prop := reTextsUptoRow.holds Tryd.pinned (OpenSpec.upto reTextsSpec)

/-- 'periscopelaw03.ReWiths', WHERE WHAT IT READS IS OF BULK AT MOST 1048576: true; the input reads as it did. -/
def reWithsUptoRow : OpenClaim := { program := "ytihloigpdcinkaadoor", sum := "e102d2336d9ddd228fd5248287b5cb5ba61a751a764231446215d7ee5c9c013e", func := "periscope/periscopelaw03.ReWiths", spec := "reWiths", inPlace := ["internal/abi.NoEscape", "internal/bytealg.MakeNoZero"], unfollowed := true, recurses := true, named := ["internal/strconv.uint64pow10", "math/bits.deBruijn32tab", "math/bits.deBruijn64tab"], loops := true, apart := false, laid := [("math/bits.deBruijn32tab", laid_math_bits_deBruijn32tab), ("math/bits.deBruijn64tab", laid_math_bits_deBruijn64tab), ("internal/strconv.uint64pow10", laid_internal_strconv_uint64pow10)], narrowed := true }
def ReWithsUptoSaid : Prop := reWithsUptoRow.holds Tryd.pinned (OpenSpec.upto reWithsSpec)

/-- 'periscopelaw03.ReKeys', WHERE WHAT IT READS IS OF BULK AT MOST 1048576: true; the input reads as it did. -/
def reKeysUptoRow : OpenClaim := { program := "ytihloigpdcinkaadoor", sum := "e102d2336d9ddd228fd5248287b5cb5ba61a751a764231446215d7ee5c9c013e", func := "periscope/periscopelaw03.ReKeys", spec := "reKeys", inPlace := ["internal/abi.NoEscape", "internal/bytealg.MakeNoZero"], unfollowed := true, recurses := true, named := ["internal/strconv.uint64pow10", "math/bits.deBruijn32tab", "math/bits.deBruijn64tab"], loops := true, apart := false, laid := [("math/bits.deBruijn32tab", laid_math_bits_deBruijn32tab), ("math/bits.deBruijn64tab", laid_math_bits_deBruijn64tab), ("internal/strconv.uint64pow10", laid_internal_strconv_uint64pow10)], narrowed := true }
def ReKeysUptoSaid : Prop := reKeysUptoRow.holds Tryd.pinned (OpenSpec.upto reKeysSpec)

/-- 'periscopelaw05.DerivWords', WHERE WHAT IT READS IS OF BULK AT MOST 1048576: true; the input reads as it did. -/
def derivWordsUptoRow : OpenClaim := { program := "ytihloigpdcinkaadoor", sum := "e102d2336d9ddd228fd5248287b5cb5ba61a751a764231446215d7ee5c9c013e", func := "periscope/periscopelaw05.DerivWords", spec := "derivWords", inPlace := ["internal/abi.NoEscape", "internal/bytealg.MakeNoZero"], unfollowed := true, recurses := true, named := ["internal/strconv.uint64pow10", "math/bits.deBruijn32tab", "math/bits.deBruijn64tab"], apart := false, laid := [("math/bits.deBruijn32tab", laid_math_bits_deBruijn32tab), ("math/bits.deBruijn64tab", laid_math_bits_deBruijn64tab), ("internal/strconv.uint64pow10", laid_internal_strconv_uint64pow10)], narrowed := true }
def DerivWordsUptoSaid : Prop := derivWordsUptoRow.holds Tryd.pinned (OpenSpec.upto derivWordsSpec)

/-- 'periscopelaw05.DerivTexts', WHERE WHAT IT READS IS OF BULK AT MOST 1048576: true; the input reads as it did. -/
def derivTextsUptoRow : OpenClaim := { program := "ytihloigpdcinkaadoor", sum := "e102d2336d9ddd228fd5248287b5cb5ba61a751a764231446215d7ee5c9c013e", func := "periscope/periscopelaw05.DerivTexts", spec := "derivTexts", inPlace := ["internal/abi.NoEscape", "internal/bytealg.MakeNoZero"], unfollowed := true, recurses := true, named := ["internal/strconv.uint64pow10", "math/bits.deBruijn32tab", "math/bits.deBruijn64tab"], loops := true, apart := false, laid := [("math/bits.deBruijn32tab", laid_math_bits_deBruijn32tab), ("math/bits.deBruijn64tab", laid_math_bits_deBruijn64tab), ("internal/strconv.uint64pow10", laid_internal_strconv_uint64pow10)], narrowed := true }
def DerivTextsUptoSaid : Prop := derivTextsUptoRow.holds Tryd.pinned (OpenSpec.upto derivTextsSpec)

/-- 'periscopelaw05.DerivRules', WHERE WHAT IT READS IS OF BULK AT MOST 1048576: true; the input reads as it did. -/
def derivRulesUptoRow : OpenClaim := { program := "ytihloigpdcinkaadoor", sum := "e102d2336d9ddd228fd5248287b5cb5ba61a751a764231446215d7ee5c9c013e", func := "periscope/periscopelaw05.DerivRules", spec := "derivRules", inPlace := ["internal/abi.NoEscape", "internal/bytealg.MakeNoZero"], unfollowed := true, recurses := true, named := ["internal/strconv.uint64pow10", "math/bits.deBruijn32tab", "math/bits.deBruijn64tab"], loops := true, apart := false, laid := [("math/bits.deBruijn32tab", laid_math_bits_deBruijn32tab), ("math/bits.deBruijn64tab", laid_math_bits_deBruijn64tab), ("internal/strconv.uint64pow10", laid_internal_strconv_uint64pow10)], narrowed := true }
def DerivRulesUptoSaid : Prop := derivRulesUptoRow.holds Tryd.pinned (OpenSpec.upto derivRulesSpec)

/-- 'periscopelaw05.DerivParts', WHERE WHAT IT READS IS OF BULK AT MOST 1048576: true; the input reads as it did. -/
def derivPartsUptoRow : OpenClaim := { program := "ytihloigpdcinkaadoor", sum := "e102d2336d9ddd228fd5248287b5cb5ba61a751a764231446215d7ee5c9c013e", func := "periscope/periscopelaw05.DerivParts", spec := "derivParts", inPlace := ["internal/abi.NoEscape", "internal/bytealg.MakeNoZero"], unfollowed := true, recurses := true, named := ["internal/strconv.uint64pow10", "math/bits.deBruijn32tab", "math/bits.deBruijn64tab"], loops := true, apart := false, laid := [("math/bits.deBruijn32tab", laid_math_bits_deBruijn32tab), ("math/bits.deBruijn64tab", laid_math_bits_deBruijn64tab), ("internal/strconv.uint64pow10", laid_internal_strconv_uint64pow10)], narrowed := true }
def DerivPartsUptoSaid : Prop := derivPartsUptoRow.holds Tryd.pinned (OpenSpec.upto derivPartsSpec)

end Rows
end Go.Proofs.YtihloigpdcinkaaDoor
