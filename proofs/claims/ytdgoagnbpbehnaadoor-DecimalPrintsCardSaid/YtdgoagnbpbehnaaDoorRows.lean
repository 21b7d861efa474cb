/-
  NARROWER THAN 'FOR EVERY INPUT', by the rows' own cells (each row's printed sentence says how): DecimalParses: laid · DecimalPrints: laid · DecimalScales: laid · DecimalTimes: laid · DecimalSwaps: laid · DecimalSums: laid · DecimalCompares: laid · DecimalOrders: laid · DecimalRests: laid.
  DERIVED. THE GIVEN ROWS OF THIS SEAT. 9 by the template 'for every input the law returns true; each argument reads behind the call as it read before'; 0 by the template 'total and deterministic' (their statements: YtdgoagnbpbehnaaDoorTotals.lean).
  GIVEN WITH THE SEED: the statements are not yours to turn. If you find one false, say at which input.
  Laid BY PROGRAM, IN A SANDBOX (cutbox-rows.mjs): the forced cells as the released guide's own fill.sh prints them over the translation 7a37cee6efec6791… (all of the seat's roots in one cut). By AI agents, Wed Nov 11 2026. No macro, syntax, notation, axiom, sorry.
-/
import Derived.Test.YtdgoagnbpbehnaaDoorChecked
import GoSem.Claim
import GoSem.ClaimJoined
import GoSem.ClaimMapViews
import Derived.JoinedTies
import Derived.KernelRfl
namespace Go.Proofs.YtdgoagnbpbehnaaDoor
/- THE CELL 'sum', in the pinned program and in every row, IS THE sha256 OF THE DUMP (.gsa) THAT YtdgoagnbpbehnaaDoorProg.lean LOADS. Nothing in Lean hashes anything: it is a label: what it is worth is what the hold of that sum in a sandbox is worth. -/
noncomputable def Tryd.pinned : Pinned := { name := "ytdgoagnbpbehnaadoor", sum := "7a37cee6efec67914e3b9a3ac70d08fdda2f1257e64577640b71694d167dd3ee", checked := Tryd.checked }
namespace Rows
def none {H : Type} : Left H := { results := [], args := [] }

/- WHAT THE LISTED PACKAGE-LEVEL VARIABLES READ AS WHEN THE CALL BEGINS. Each datum BY PROGRAM (the guide's laid-datum.mjs) off the statement by which the dump's own 'gosem.cut.vars' lays the variable. In a bare row this is a premise. The card (YtdgoagnbpbehnaaDoorCards.lean) ties it to the program's text. -/
def laid_math_bits_deBruijn32tab {H : Type} : DataW H := .agg [.lit (.int .u8 0), .lit (.int .u8 1), .lit (.int .u8 28), .lit (.int .u8 2), .lit (.int .u8 29), .lit (.int .u8 14), .lit (.int .u8 24), .lit (.int .u8 3), .lit (.int .u8 30), .lit (.int .u8 22), .lit (.int .u8 20), .lit (.int .u8 15), .lit (.int .u8 25), .lit (.int .u8 17), .lit (.int .u8 4), .lit (.int .u8 8), .lit (.int .u8 31), .lit (.int .u8 27), .lit (.int .u8 13), .lit (.int .u8 23), .lit (.int .u8 21), .lit (.int .u8 19), .lit (.int .u8 16), .lit (.int .u8 7), .lit (.int .u8 26), .lit (.int .u8 12), .lit (.int .u8 18), .lit (.int .u8 6), .lit (.int .u8 11), .lit (.int .u8 5), .lit (.int .u8 10), .lit (.int .u8 9)]
def laid_math_bits_deBruijn64tab {H : Type} : DataW H := .agg [.lit (.int .u8 0), .lit (.int .u8 1), .lit (.int .u8 56), .lit (.int .u8 2), .lit (.int .u8 57), .lit (.int .u8 49), .lit (.int .u8 28), .lit (.int .u8 3), .lit (.int .u8 61), .lit (.int .u8 58), .lit (.int .u8 42), .lit (.int .u8 50), .lit (.int .u8 38), .lit (.int .u8 29), .lit (.int .u8 17), .lit (.int .u8 4), .lit (.int .u8 62), .lit (.int .u8 47), .lit (.int .u8 59), .lit (.int .u8 36), .lit (.int .u8 45), .lit (.int .u8 43), .lit (.int .u8 51), .lit (.int .u8 22), .lit (.int .u8 53), .lit (.int .u8 39), .lit (.int .u8 33), .lit (.int .u8 30), .lit (.int .u8 24), .lit (.int .u8 18), .lit (.int .u8 12), .lit (.int .u8 5), .lit (.int .u8 63), .lit (.int .u8 55), .lit (.int .u8 48), .lit (.int .u8 27), .lit (.int .u8 60), .lit (.int .u8 41), .lit (.int .u8 37), .lit (.int .u8 16), .lit (.int .u8 46), .lit (.int .u8 35), .lit (.int .u8 44), .lit (.int .u8 21), .lit (.int .u8 52), .lit (.int .u8 32), .lit (.int .u8 23), .lit (.int .u8 11), .lit (.int .u8 54), .lit (.int .u8 26), .lit (.int .u8 40), .lit (.int .u8 15), .lit (.int .u8 34), .lit (.int .u8 20), .lit (.int .u8 31), .lit (.int .u8 10), .lit (.int .u8 25), .lit (.int .u8 14), .lit (.int .u8 19), .lit (.int .u8 9), .lit (.int .u8 13), .lit (.int .u8 8), .lit (.int .u8 7), .lit (.int .u8 6)]
def laid_internal_strconv_uint64pow10 {H : Type} : DataW H := .agg [.lit (.int .u64 1), .lit (.int .u64 10), .lit (.int .u64 100), .lit (.int .u64 1000), .lit (.int .u64 10000), .lit (.int .u64 100000), .lit (.int .u64 1000000), .lit (.int .u64 10000000), .lit (.int .u64 100000000), .lit (.int .u64 1000000000), .lit (.int .u64 10000000000), .lit (.int .u64 100000000000), .lit (.int .u64 1000000000000), .lit (.int .u64 10000000000000), .lit (.int .u64 100000000000000), .lit (.int .u64 1000000000000000), .lit (.int .u64 10000000000000000), .lit (.int .u64 100000000000000000), .lit (.int .u64 1000000000000000000), .lit (.int .u64 10000000000000000000)]
def laid_strconv_ErrRange {H : Type} : DataW H := .iface "*errors.errorString" (.ptr (.agg [.lit (.string [118, 97, 108, 117, 101, 32, 111, 117, 116, 32, 111, 102, 32, 114, 97, 110, 103, 101])]))
def laid_strconv_ErrSyntax {H : Type} : DataW H := .iface "*errors.errorString" (.ptr (.agg [.lit (.string [105, 110, 118, 97, 108, 105, 100, 32, 115, 121, 110, 116, 97, 120])]))

/-- 'refitlaw02.DecimalParses': WHATEVER THE INPUT: true; the input reads as it did. -/
def decimalParsesSpec : ChangeSpec := { name := "decimalParses", fn := fun _ => fun
  | [d] => { results := [.lit (.bool true)], args := [d] }
  | _ => none }
def decimalParsesRow : OpenClaim := { program := "ytdgoagnbpbehnaadoor", sum := "7a37cee6efec67914e3b9a3ac70d08fdda2f1257e64577640b71694d167dd3ee", func := "refit/refitlaw02.DecimalParses", spec := "decimalParses", inPlace := ["internal/bytealg.IndexByteString", "internal/bytealg.IndexString", "math/bits.Sub64", "math/bits.Add64"], named := ["internal/bytealg.MaxLen", "strconv.ErrSyntax", "strconv.ErrRange", "internal/strconv.uint64pow10", "math/bits.deBruijn32tab", "math/bits.deBruijn64tab"], apart := false, laid := [("math/bits.deBruijn32tab", laid_math_bits_deBruijn32tab), ("math/bits.deBruijn64tab", laid_math_bits_deBruijn64tab), ("internal/strconv.uint64pow10", laid_internal_strconv_uint64pow10), ("strconv.ErrRange", laid_strconv_ErrRange), ("strconv.ErrSyntax", laid_strconv_ErrSyntax)] }
def DecimalParsesSaid : Prop := decimalParsesRow.holds Tryd.pinned (OpenSpec.ofChange decimalParsesSpec)

/-- ITS FALSE NEIGHBOUR: 'it returns false'. Refute it at one input. -/
def decimalParsesWrong : ChangeSpec := { name := "decimalParses", fn := fun _ => fun
  | [d] => { results := [.lit (.bool false)], args := [d] }
  | _ => none }
def DecimalParsesWrongFalsely : Prop := decimalParsesRow.holds Tryd.pinned (OpenSpec.ofChange decimalParsesWrong)

/-- 'refitlaw02.DecimalPrints': WHATEVER THE INPUT: true; the input reads as it did. -/
def decimalPrintsSpec : ChangeSpec := { name := "decimalPrints", fn := fun _ => fun
  | [d1, d2] => { results := [.lit (.bool true)], args := [d1, d2] }
  | _ => none }
def decimalPrintsRow : OpenClaim := { program := "ytdgoagnbpbehnaadoor", sum := "7a37cee6efec67914e3b9a3ac70d08fdda2f1257e64577640b71694d167dd3ee", func := "refit/refitlaw02.DecimalPrints", spec := "decimalPrints", inPlace := ["internal/bytealg.IndexByteString", "internal/bytealg.IndexString", "math/bits.Sub64", "math/bits.Add64"], named := ["internal/bytealg.MaxLen", "strconv.ErrSyntax", "strconv.ErrRange", "internal/strconv.uint64pow10", "math/bits.deBruijn32tab", "math/bits.deBruijn64tab"], apart := false, laid := [("math/bits.deBruijn32tab", laid_math_bits_deBruijn32tab), ("math/bits.deBruijn64tab", laid_math_bits_deBruijn64tab), ("internal/strconv.uint64pow10", laid_internal_strconv_uint64pow10), ("strconv.ErrRange", laid_strconv_ErrRange), ("strconv.ErrSyntax", laid_strconv_ErrSyntax)] }
def DecimalPrintsSaid : Prop := decimalPrintsRow.holds Tryd.pinned (OpenSpec.ofChange decimalPrintsSpec)

/-- ITS FALSE NEIGHBOUR: 'it returns false'. Refute it at one input. -/
def decimalPrintsWrong : ChangeSpec := { name := "decimalPrints", fn := fun _ => fun
  | [d1, d2] => { results := [.lit (.bool false)], args := [d1, d2] }
  | _ => none }
def DecimalPrintsWrongFalsely : Prop := decimalPrintsRow.holds Tryd.pinned (OpenSpec.ofChange decimalPrintsWrong)

/-- 'refitlaw02.DecimalScales': WHATEVER THE INPUT: true; the input reads as it did. -/
def decimalScalesSpec : ChangeSpec := { name := "decimalScales", fn := fun _ => fun
  | [d1, d2, d3] => { results := [.lit (.bool true)], args := [d1, d2, d3] }
  | _ => none }
def decimalScalesRow : OpenClaim := { program := "ytdgoagnbpbehnaadoor", sum := "7a37cee6efec67914e3b9a3ac70d08fdda2f1257e64577640b71694d167dd3ee", func := "refit/refitlaw02.DecimalScales", spec := "decimalScales", inPlace := ["internal/bytealg.IndexByteString", "internal/bytealg.IndexString", "math/bits.Sub64", "math/bits.Add64"], named := ["internal/bytealg.MaxLen", "strconv.ErrSyntax", "strconv.ErrRange", "internal/strconv.uint64pow10", "math/bits.deBruijn32tab", "math/bits.deBruijn64tab"], apart := false, laid := [("math/bits.deBruijn32tab", laid_math_bits_deBruijn32tab), ("math/bits.deBruijn64tab", laid_math_bits_deBruijn64tab), ("internal/strconv.uint64pow10", laid_internal_strconv_uint64pow10), ("strconv.ErrRange", laid_strconv_ErrRange), ("strconv.ErrSyntax", laid_strconv_ErrSyntax)] }
def DecimalScalesSaid : Prop := decimalScalesRow.holds Tryd.pinned (OpenSpec.ofChange decimalScalesSpec)

/-- ITS FALSE NEIGHBOUR: 'it returns false'. Refute it at one input. -/
def decimalScalesWrong : ChangeSpec := { name := "decimalScales", fn := fun _ => fun
  | [d1, d2, d3] => { results := [.lit (.bool false)], args := [d1, d2, d3] }
  | _ => none }
def DecimalScalesWrongFalsely : Prop := decimalScalesRow.holds Tryd.pinned (OpenSpec.ofChange decimalScalesWrong)

/-- 'refitlaw02.DecimalTimes': WHATEVER THE INPUT: true; the input reads as it did. -/
def decimalTimesSpec : ChangeSpec := { name := "decimalTimes", fn := fun _ => fun
  | [d1, d2, d3] => { results := [.lit (.bool true)], args := [d1, d2, d3] }
  | _ => none }
def decimalTimesRow : OpenClaim := { program := "ytdgoagnbpbehnaadoor", sum := "7a37cee6efec67914e3b9a3ac70d08fdda2f1257e64577640b71694d167dd3ee", func := "refit/refitlaw02.DecimalTimes", spec := "decimalTimes", inPlace := ["internal/bytealg.IndexByteString", "internal/bytealg.IndexString", "math/bits.Sub64", "math/bits.Add64"], named := ["internal/bytealg.MaxLen", "strconv.ErrSyntax", "strconv.ErrRange", "internal/strconv.uint64pow10", "math/bits.deBruijn32tab", "math/bits.deBruijn64tab"], apart := false, laid := [("math/bits.deBruijn32tab", laid_math_bits_deBruijn32tab), ("math/bits.deBruijn64tab", laid_math_bits_deBruijn64tab), ("internal/strconv.uint64pow10", laid_internal_strconv_uint64pow10), ("strconv.ErrRange", laid_strconv_ErrRange), ("strconv.ErrSyntax", laid_strconv_ErrSyntax)] }
def DecimalTimesSaid : Prop := decimalTimesRow.holds Tryd.pinned (OpenSpec.ofChange decimalTimesSpec)

/-- ITS FALSE NEIGHBOUR: 'it returns false'. Refute it at one input. -/
def decimalTimesWrong : ChangeSpec := { name := "decimalTimes", fn := fun _ => fun
  | [d1, d2, d3] => { results := [.lit (.bool false)], args := [d1, d2, d3] }
  | _ => none }
def DecimalTimesWrongFalsely : Prop := decimalTimesRow.holds Tryd.pinned (OpenSpec.ofChange decimalTimesWrong)

/-- 'refitlaw02.DecimalSwaps': WHATEVER THE INPUT: true; the input reads as it did. -/
def decimalSwapsSpec : ChangeSpec := { name := "decimalSwaps", fn := fun _ => fun
  | [d1, d2, d3] => { results := [.lit (.bool true)], args := [d1, d2, d3] }
  | _ => none }
def decimalSwapsRow : OpenClaim := { program := "ytdgoagnbpbehnaadoor", sum := "7a37cee6efec67914e3b9a3ac70d08fdda2f1257e64577640b71694d167dd3ee", func := "refit/refitlaw02.DecimalSwaps", spec := "decimalSwaps", inPlace := ["internal/bytealg.IndexByteString", "internal/bytealg.IndexString", "math/bits.Sub64", "math/bits.Add64"], named := ["internal/bytealg.MaxLen", "strconv.ErrSyntax", "strconv.ErrRange", "internal/strconv.uint64pow10", "math/bits.deBruijn32tab", "math/bits.deBruijn64tab"], apart := false, laid := [("math/bits.deBruijn32tab", laid_math_bits_deBruijn32tab), ("math/bits.deBruijn64tab", laid_math_bits_deBruijn64tab), ("internal/strconv.uint64pow10", laid_internal_strconv_uint64pow10), ("strconv.ErrRange", laid_strconv_ErrRange), ("strconv.ErrSyntax", laid_strconv_ErrSyntax)] }
def DecimalSwapsSaid : Prop := decimalSwapsRow.holds Tryd.pinned (OpenSpec.ofChange decimalSwapsSpec)

/-- ITS FALSE NEIGHBOUR: 'it returns false'. Refute it at one input. -/
def decimalSwapsWrong : ChangeSpec := { name := "decimalSwaps", fn := fun _ => fun
  | [d1, d2, d3] => { results := [.lit (.bool false)], args := [d1, d2, d3] }
  | _ => none }
def DecimalSwapsWrongFalsely : Prop := decimalSwapsRow.holds Tryd.pinned (OpenSpec.ofChange decimalSwapsWrong)

/-- 'refitlaw02.DecimalSums': WHATEVER THE INPUT: true; the input reads as it did. -/
def decimalSumsSpec : ChangeSpec := { name := "decimalSums", fn := fun _ => fun
  | [d1, d2] => { results := [.lit (.bool true)], args := [d1, d2] }
  | _ => none }
def decimalSumsRow : OpenClaim := { program := "ytdgoagnbpbehnaadoor", sum := "7a37cee6efec67914e3b9a3ac70d08fdda2f1257e64577640b71694d167dd3ee", func := "refit/refitlaw02.DecimalSums", spec := "decimalSums", inPlace := ["internal/bytealg.IndexByteString", "internal/bytealg.IndexString", "math/bits.Sub64", "math/bits.Add64"], named := ["internal/bytealg.MaxLen", "strconv.ErrSyntax", "strconv.ErrRange", "internal/strconv.uint64pow10", "math/bits.deBruijn32tab", "math/bits.deBruijn64tab"], apart := false, laid := [("math/bits.deBruijn32tab", laid_math_bits_deBruijn32tab), ("math/bits.deBruijn64tab", laid_math_bits_deBruijn64tab), ("internal/strconv.uint64pow10", laid_internal_strconv_uint64pow10), ("strconv.ErrRange", laid_strconv_ErrRange), ("strconv.ErrSyntax", laid_strconv_ErrSyntax)] }
def DecimalSumsSaid : Prop := decimalSumsRow.holds Tryd.pinned (OpenSpec.ofChange decimalSumsSpec)

/-- ITS FALSE NEIGHBOUR: 'it returns false'. Refute it at one input. -/
def decimalSumsWrong : ChangeSpec := { name := "decimalSums", fn := fun _ => fun
  | [d1, d2] => { results := [.lit (.bool false)], args := [d1, d2] }
  | _ => none }
def DecimalSumsWrongFalsely : Prop := decimalSumsRow.holds Tryd.pinned (OpenSpec.ofChange decimalSumsWrong)

/-- 'refitlaw02.DecimalCompares': WHATEVER THE INPUT: true; the input reads as it did. -/
def decimalComparesSpec : ChangeSpec := { name := "decimalCompares", fn := fun _ => fun
  | [d1, d2] => { results := [.lit (.bool true)], args := [d1, d2] }
  | _ => none }
def decimalComparesRow : OpenClaim := { program := "ytdgoagnbpbehnaadoor", sum := "7a37cee6efec67914e3b9a3ac70d08fdda2f1257e64577640b71694d167dd3ee", func := "refit/refitlaw02.DecimalCompares", spec := "decimalCompares", inPlace := ["internal/bytealg.IndexByteString", "internal/bytealg.IndexString", "math/bits.Sub64", "math/bits.Add64"], named := ["internal/bytealg.MaxLen", "strconv.ErrSyntax", "strconv.ErrRange", "internal/strconv.uint64pow10", "math/bits.deBruijn32tab", "math/bits.deBruijn64tab"], apart := false, laid := [("math/bits.deBruijn32tab", laid_math_bits_deBruijn32tab), ("math/bits.deBruijn64tab", laid_math_bits_deBruijn64tab), ("internal/strconv.uint64pow10", laid_internal_strconv_uint64pow10), ("strconv.ErrRange", laid_strconv_ErrRange), ("strconv.ErrSyntax", laid_strconv_ErrSyntax)] }
def DecimalComparesSaid : Prop := decimalComparesRow.holds Tryd.pinned (OpenSpec.ofChange decimalComparesSpec)

/-- ITS FALSE NEIGHBOUR: 'it returns false'. Refute it at one input. -/
def decimalComparesWrong : ChangeSpec := { name := "decimalCompares", fn := fun _ => fun
  | [d1, d2] => { results := [.lit (.bool false)], args := [d1, d2] }
  | _ => none }
def DecimalComparesWrongFalsely : Prop := decimalComparesRow.holds Tryd.pinned (OpenSpec.ofChange decimalComparesWrong)

/-- 'refitlaw02.DecimalOrders': WHATEVER THE INPUT: true; the input reads as it did. -/
def decimalOrdersSpec : ChangeSpec := { name := "decimalOrders", fn := fun _ => fun
  | [d1, d2] => { results := [.lit (.bool true)], args := [d1, d2] }
  | _ => none }
def decimalOrdersRow : OpenClaim := { program := "ytdgoagnbpbehnaadoor", sum := "7a37cee6efec67914e3b9a3ac70d08fdda2f1257e64577640b71694d167dd3ee", func := "refit/refitlaw02.DecimalOrders", spec := "decimalOrders", inPlace := ["internal/bytealg.IndexByteString", "internal/bytealg.IndexString", "math/bits.Sub64", "math/bits.Add64"], named := ["internal/bytealg.MaxLen", "strconv.ErrSyntax", "strconv.ErrRange", "internal/strconv.uint64pow10", "math/bits.deBruijn32tab", "math/bits.deBruijn64tab"], apart := false, laid := [("math/bits.deBruijn32tab", laid_math_bits_deBruijn32tab), ("math/bits.deBruijn64tab", laid_math_bits_deBruijn64tab), ("internal/strconv.uint64pow10", laid_internal_strconv_uint64pow10), ("strconv.ErrRange", laid_strconv_ErrRange), ("strconv.ErrSyntax", laid_strconv_ErrSyntax)] }
def DecimalOrdersSaid : Prop := decimalOrdersRow.holds Tryd.pinned (OpenSpec.ofChange decimalOrdersSpec)

/-- ITS FALSE NEIGHBOUR: 'it returns false'. Refute it at one input. -/
def decimalOrdersWrong : ChangeSpec := { name := "decimalOrders", fn := fun _ => fun
  | [d1, d2] => { results := [.lit (.bool false)], args := [d1, d2] }
  | _ => none }
def DecimalOrdersWrongFalsely : Prop := decimalOrdersRow.holds Tryd.pinned (OpenSpec.ofChange decimalOrdersWrong)

/-- 'refitlaw02.DecimalRests': WHATEVER THE INPUT: true; the input reads as it did. -/
def decimalRestsSpec : ChangeSpec := { name := "decimalRests", fn := fun _ => fun
  | [d1, d2] => { results := [.lit (.bool true)], args := [d1, d2] }
  | _ => none }
def decimalRestsRow : OpenClaim := { program := "ytdgoagnbpbehnaadoor", sum := "7a37cee6efec67914e3b9a3ac70d08fdda2f1257e64577640b71694d167dd3ee", func := "refit/refitlaw02.DecimalRests", spec := "decimalRests", inPlace := ["internal/bytealg.IndexByteString", "internal/bytealg.IndexString", "math/bits.Sub64", "math/bits.Add64"], named := ["internal/bytealg.MaxLen", "strconv.ErrSyntax", "strconv.ErrRange", "internal/strconv.uint64pow10", "math/bits.deBruijn32tab", "math/bits.deBruijn64tab"], apart := false, laid := [("math/bits.deBruijn32tab", laid_math_bits_deBruijn32tab), ("math/bits.deBruijn64tab", laid_math_bits_deBruijn64tab), ("internal/strconv.uint64pow10", laid_internal_strconv_uint64pow10), ("strconv.ErrRange", laid_strconv_ErrRange), ("strconv.ErrSyntax", laid_strconv_ErrSyntax)] }
def DecimalRestsSaid : Prop := decimalRestsRow.holds Tryd.pinned (OpenSpec.ofChange decimalRestsSpec)

/-- ITS FALSE NEIGHBOUR: 'it returns false'. Refute it at one input. -/
def decimalRestsWrong : ChangeSpec := { name := "decimalRests", fn := fun _ => fun
  | [d1, d2] => { results := [.lit (.bool false)], args := [d1, d2] }
  | _ => none }
def DecimalRestsWrongFalsely : Prop := decimalRestsRow.holds Tryd.pinned (OpenSpec.ofChange decimalRestsWrong)

/- THE SECOND FORM. 'bulk': how many values and letters a reading holds, each counted each time it is reached (what is shared counts as often as it is met; a slice's spare places count too). A statement '..UptoSaid' is the law's where the arguments, and the package variables that the reading takes, are together of bulk at most 1048576: NARROWER than '..Said'. Prove '..Said' where nothing that the law and all that it calls make is longer than what came in: it says more and counts as full. Else prove '..UptoSaid'. A law counts once. -/
mutual
def uptoBulk {H : Type} : DataW H → Nat
  | .lit (.string bytes) => bytes.length + 1
  | .lit _ => 1
  | .nil => 1
  | .ptr d => uptoBulk d + 1
  | .slice elems spare => uptoBulkAll elems + uptoBulkAll spare + 1
  | .agg parts => uptoBulkAll parts + 1
  | .iface _ d => uptoBulk d + 1
  | .map entries => uptoBulkEntries entries + 1
  | .held _ => 1
def uptoBulkAll {H : Type} : List (DataW H) → Nat
  | [] => 0
  | d :: r => uptoBulk d + uptoBulkAll r
def uptoBulkEntries {H : Type} : List (Lit × DataW H) → Nat
  | [] => 0
  | x :: r => uptoBulkEntry x + uptoBulkEntries r
def uptoBulkEntry {H : Type} : Lit × DataW H → Nat
  | (.string bytes, d) => bytes.length + uptoBulk d + 1
  | (_, d) => uptoBulk d + 1
 end
def uptoSmall : (H : Type) → List (DataW H) → Bool := fun _ ds => decide (uptoBulkAll ds ≤ 1048576)
def OpenSpec.upto (s : _root_.Go.ChangeSpec) : _root_.Go.OpenSpec := { _root_.Go.OpenSpec.ofChange s with cond := some uptoSmall }

/-- 'refitlaw02.DecimalParses', WHERE WHAT IT READS IS OF BULK AT MOST 1048576: true; the input reads as it did. -/
def decimalParsesUptoRow : OpenClaim := { program := "ytdgoagnbpbehnaadoor", sum := "7a37cee6efec67914e3b9a3ac70d08fdda2f1257e64577640b71694d167dd3ee", func := "refit/refitlaw02.DecimalParses", spec := "decimalParses", inPlace := ["internal/bytealg.IndexByteString", "internal/bytealg.IndexString", "math/bits.Sub64", "math/bits.Add64"], named := ["internal/bytealg.MaxLen", "strconv.ErrSyntax", "strconv.ErrRange", "internal/strconv.uint64pow10", "math/bits.deBruijn32tab", "math/bits.deBruijn64tab"], apart := false, laid := [("math/bits.deBruijn32tab", laid_math_bits_deBruijn32tab), ("math/bits.deBruijn64tab", laid_math_bits_deBruijn64tab), ("internal/strconv.uint64pow10", laid_internal_strconv_uint64pow10), ("strconv.ErrRange", laid_strconv_ErrRange), ("strconv.ErrSyntax", laid_strconv_ErrSyntax)], narrowed := true }
def DecimalParsesUptoSaid : Prop := decimalParsesUptoRow.holds Tryd.pinned (OpenSpec.upto decimalParsesSpec)

/-- 'refitlaw02.DecimalPrints', WHERE WHAT IT READS IS OF BULK AT MOST 1048576: true; the input reads as it did. -/
def decimalPrintsUptoRow : OpenClaim := { program := "ytdgoagnbpbehnaadoor", sum := "7a37cee6efec67914e3b9a3ac70d08fdda2f1257e64577640b71694d167dd3ee", func := "refit/refitlaw02.DecimalPrints", spec := "decimalPrints", inPlace := ["internal/bytealg.IndexByteString", "internal/bytealg.IndexString", "math/bits.Sub64", "math/bits.Add64"], named := ["internal/bytealg.MaxLen", "strconv.ErrSyntax", "strconv.ErrRange", "internal/strconv.uint64pow10", "math/bits.deBruijn32tab", "math/bits.deBruijn64tab"], apart := false, laid := [("math/bits.deBruijn32tab", laid_math_bits_deBruijn32tab), ("math/bits.deBruijn64tab", laid_math_bits_deBruijn64tab), ("internal/strconv.uint64pow10", laid_internal_strconv_uint64pow10), ("strconv.ErrRange", laid_strconv_ErrRange), ("strconv.ErrSyntax", laid_strconv_ErrSyntax)], narrowed := true }
def DecimalPrintsUptoSaid : Prop := decimalPrintsUptoRow.holds Tryd.pinned (OpenSpec.upto decimalPrintsSpec)

/-- 'refitlaw02.DecimalScales', WHERE WHAT IT READS IS OF BULK AT MOST 1048576: true; the input reads as it did. -/
def decimalScalesUptoRow : OpenClaim := { program := "ytdgoagnbpbehnaadoor", sum := "7a37cee6efec67914e3b9a3ac70d08fdda2f1257e64577640b71694d167dd3ee", func := "refit/refitlaw02.DecimalScales", spec := "decimalScales", inPlace := ["internal/bytealg.IndexByteString", "internal/bytealg.IndexString", "math/bits.Sub64", "math/bits.Add64"], named := ["internal/bytealg.MaxLen", "strconv.ErrSyntax", "strconv.ErrRange", "internal/strconv.uint64pow10", "math/bits.deBruijn32tab", "math/bits.deBruijn64tab"], apart := false, laid := [("math/bits.deBruijn32tab", laid_math_bits_deBruijn32tab), ("math/bits.deBruijn64tab", laid_math_bits_deBruijn64tab), ("internal/strconv.uint64pow10", laid_internal_strconv_uint64pow10), ("strconv.ErrRange", laid_strconv_ErrRange), ("strconv.ErrSyntax", laid_strconv_ErrSyntax)], narrowed := true }
def DecimalScalesUptoSaid : Prop := decimalScalesUptoRow.holds Tryd.pinned (OpenSpec.upto decimalScalesSpec)

/-- 'refitlaw02.DecimalTimes', WHERE WHAT IT READS IS OF BULK AT MOST 1048576: true; the input reads as it did. -/
def decimalTimesUptoRow : OpenClaim := { program := "ytdgoagnbpbehnaadoor", sum := "7a37cee6efec67914e3b9a3ac70d08fdda2f1257e64577640b71694d167dd3ee", func := "refit/refitlaw02.DecimalTimes", spec := "decimalTimes", inPlace := ["internal/bytealg.IndexByteString", "internal/bytealg.IndexString", "math/bits.Sub64", "math/bits.Add64"], named := ["internal/bytealg.MaxLen", "strconv.ErrSyntax", "strconv.ErrRange", "internal/strconv.uint64pow10", "math/bits.deBruijn32tab", "math/bits.deBruijn64tab"], apart := false, laid := [("math/bits.deBruijn32tab", laid_math_bits_deBruijn32tab), ("math/bits.deBruijn64tab", laid_math_bits_deBruijn64tab), ("internal/strconv.uint64pow10", laid_internal_strconv_uint64pow10), ("strconv.ErrRange", laid_strconv_ErrRange), ("strconv.ErrSyntax", laid_strconv_ErrSyntax)], narrowed := true }
def DecimalTimesUptoSaid : Prop := decimalTimesUptoRow.holds Tryd.pinned (OpenSpec.upto decimalTimesSpec)

/-- 'refitlaw02.DecimalSwaps', WHERE WHAT IT READS IS OF BULK AT MOST 1048576: true; the input reads as it did. -/
def decimalSwapsUptoRow : OpenClaim := { program := "ytdgoagnbpbehnaadoor", sum := "7a37cee6efec67914e3b9a3ac70d08fdda2f1257e64577640b71694d167dd3ee", func := "refit/refitlaw02.DecimalSwaps", spec := "decimalSwaps", inPlace := ["internal/bytealg.IndexByteString", "internal/bytealg.IndexString", "math/bits.Sub64", "math/bits.Add64"], named := ["internal/bytealg.MaxLen", "strconv.ErrSyntax", "strconv.ErrRange", "internal/strconv.uint64pow10", "math/bits.deBruijn32tab", "math/bits.deBruijn64tab"], apart := false, laid := [("math/bits.deBruijn32tab", laid_math_bits_deBruijn32tab), ("math/bits.deBruijn64tab", laid_math_bits_deBruijn64tab), ("internal/strconv.uint64pow10", laid_internal_strconv_uint64pow10), ("strconv.ErrRange", laid_strconv_ErrRange), ("strconv.ErrSyntax", laid_strconv_ErrSyntax)], narrowed := true }
def DecimalSwapsUptoSaid : Prop := decimalSwapsUptoRow.holds Tryd.pinned (OpenSpec.upto decimalSwapsSpec)

/-- 'refitlaw02.DecimalSums', WHERE WHAT IT READS IS OF BULK AT MOST 1048576: true; the input reads as it did. -/
def decimalSumsUptoRow : OpenClaim := { program := "ytdgoagnbpbehnaadoor", sum := "7a37cee6efec67914e3b9a3ac70d08fdda2f1257e64577640b71694d167dd3ee", func := "refit/refitlaw02.DecimalSums", spec := "decimalSums", inPlace := ["internal/bytealg.IndexByteString", "internal/bytealg.IndexString", "math/bits.Sub64", "math/bits.Add64"], named := ["internal/bytealg.MaxLen", "strconv.ErrSyntax", "strconv.ErrRange", "internal/strconv.uint64pow10", "math/bits.deBruijn32tab", "math/bits.deBruijn64tab"], apart := false, laid := [("math/bits.deBruijn32tab", laid_math_bits_deBruijn32tab), ("math/bits.deBruijn64tab", laid_math_bits_deBruijn64tab), ("internal/strconv.uint64pow10", laid_internal_strconv_uint64pow10), ("strconv.ErrRange", laid_strconv_ErrRange), ("strconv.ErrSyntax", laid_strconv_ErrSyntax)], narrowed := true }
def DecimalSumsUptoSaid : Prop := decimalSumsUptoRow.holds Tryd.pinned (OpenSpec.upto decimalSumsSpec)

/-- 'refitlaw02.DecimalCompares', WHERE WHAT IT READS IS OF BULK AT MOST 1048576: true; the input reads as it did. -/
def decimalComparesUptoRow : OpenClaim := { program := "ytdgoagnbpbehnaadoor", sum := "7a37cee6efec67914e3b9a3ac70d08fdda2f1257e64577640b71694d167dd3ee", func := "refit/refitlaw02.DecimalCompares", spec := "decimalCompares", inPlace := ["internal/bytealg.IndexByteString", "internal/bytealg.IndexString", "math/bits.Sub64", "math/bits.Add64"], named := ["internal/bytealg.MaxLen", "strconv.ErrSyntax", "strconv.ErrRange", "internal/strconv.uint64pow10", "math/bits.deBruijn32tab", "math/bits.deBruijn64tab"], apart := false, laid := [("math/bits.deBruijn32tab", laid_math_bits_deBruijn32tab), ("math/bits.deBruijn64tab", laid_math_bits_deBruijn64tab), ("internal/strconv.uint64pow10", laid_internal_strconv_uint64pow10), ("strconv.ErrRange", laid_strconv_ErrRange), ("strconv.ErrSyntax", laid_strconv_ErrSyntax)], narrowed := true }
def DecimalComparesUptoSaid : Prop := decimalComparesUptoRow.holds Tryd.pinned (OpenSpec.upto decimalComparesSpec)

/-- 'refitlaw02.DecimalOrders', WHERE WHAT IT READS IS OF BULK AT MOST 1048576: true; the input reads as it did. -/
def decimalOrdersUptoRow : OpenClaim := { program := "ytdgoagnbpbehnaadoor", sum := "7a37cee6efec67914e3b9a3ac70d08fdda2f1257e64577640b71694d167dd3ee", func := "refit/refitlaw02.DecimalOrders", spec := "decimalOrders", inPlace := ["internal/bytealg.IndexByteString", "internal/bytealg.IndexString", "math/bits.Sub64", "math/bits.Add64"], named := ["internal/bytealg.MaxLen", "strconv.ErrSyntax", "strconv.ErrRange", "internal/strconv.uint64pow10", "math/bits.deBruijn32tab", "math/bits.deBruijn64tab"], apart := false, laid := [("math/bits.deBruijn32tab", laid_math_bits_deBruijn32tab), ("math/bits.deBruijn64tab", laid_math_bits_deBruijn64tab), ("internal/strconv.uint64pow10", laid_internal_strconv_uint64pow10), ("strconv.ErrRange", laid_strconv_ErrRange), ("strconv.ErrSyntax", laid_strconv_ErrSyntax)], narrowed := true }
def DecimalOrdersUptoSaid : Prop := decimalOrdersUptoRow.holds Tryd.pinned (OpenSpec.upto decimalOrdersSpec)

/-- 'refitlaw02.DecimalRests', WHERE WHAT IT READS IS OF BULK AT MOST 1048576: true; the input reads as it did. -/
def decimalRestsUptoRow : OpenClaim := { program := "ytdgoagnbpbehnaadoor", sum := "7a37cee6efec67914e3b9a3ac70d08fdda2f1257e64577640b71694d167dd3ee", func := "refit/refitlaw02.DecimalRests", spec := "decimalRests", inPlace := ["internal/bytealg.IndexByteString", "internal/bytealg.IndexString", "math/bits.Sub64", "math/bits.Add64"], named := ["internal/bytealg.MaxLen", "strconv.ErrSyntax", "strconv.ErrRange", "internal/strconv.uint64pow10", "math/bits.deBruijn32tab", "math/bits.deBruijn64tab"], apart := false, laid := [("math/bits.deBruijn32tab", laid_math_bits_deBruijn32tab), ("math/bits.deBruijn64tab", laid_math_bits_deBruijn64tab), ("internal/strconv.uint64pow10", laid_internal_strconv_uint64pow10), ("strconv.ErrRange", laid_strconv_ErrRange), ("strconv.ErrSyntax", laid_strconv_ErrSyntax)], narrowed := true }
def DecimalRestsUptoSaid : Prop := decimalRestsUptoRow.holds Tryd.pinned (OpenSpec.upto decimalRestsSpec)

end Rows
end Go.Proofs.YtdgoagnbpbehnaaDoor
