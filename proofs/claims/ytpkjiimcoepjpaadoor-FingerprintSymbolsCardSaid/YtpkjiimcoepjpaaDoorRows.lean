/-
  NARROWER THAN 'FOR EVERY INPUT', by the rows' own cells (each row's printed sentence says how): FingerprintSymbols: loops, laid · FingerprintHashes: laid · FingerprintRolls: laid · FingerprintWinnows: laid · FingerprintDense: laid · FingerprintGuarantee: laid · FingerprintLocal: laid.
  DERIVED. THE GIVEN ROWS OF THIS SEAT. 7 by the template 'for every input the law returns true; each argument reads behind the call as it read before'; 0 by the template 'total and deterministic' (their statements: YtpkjiimcoepjpaaDoorTotals.lean).
  GIVEN WITH THE SEED: the statements are not yours to turn. If you find one false, say at which input.
  Laid BY PROGRAM, IN A SANDBOX (cutbox-rows.mjs): the forced cells as the released guide's own fill.sh prints them over the translation 5f00a2accc073ab4… (all of the seat's roots in one cut). By AI agents, Wed Nov 11 2026. No macro, syntax, notation, axiom, sorry.
-/
import Derived.Test.YtpkjiimcoepjpaaDoorChecked
import GoSem.Claim
import GoSem.ClaimJoined
import GoSem.ClaimMapViews
import Derived.JoinedTies
import Derived.KernelRfl
namespace Go.Proofs.YtpkjiimcoepjpaaDoor
/- THE CELL 'sum', in the pinned program and in every row, IS THE sha256 OF THE DUMP (.gsa) THAT YtpkjiimcoepjpaaDoorProg.lean LOADS. Nothing in Lean hashes anything: it is a label: what it is worth is what the hold of that sum in a sandbox is worth. -/
noncomputable def Tryd.pinned : Pinned := { name := "ytpkjiimcoepjpaadoor", sum := "5f00a2accc073ab40855c42166bedd891d361c10d70b8050e227b65c6110f7c9", checked := Tryd.checked }
namespace Rows
def none {H : Type} : Left H := { results := [], args := [] }

/- WHAT THE LISTED PACKAGE-LEVEL VARIABLES READ AS WHEN THE CALL BEGINS. Each datum BY PROGRAM (the guide's laid-datum.mjs) off the statement by which the dump's own 'gosem.cut.vars' lays the variable. In a bare row this is a premise. The card (YtpkjiimcoepjpaaDoorCards.lean) ties it to the program's text. -/
def laid_math_bits_deBruijn32tab {H : Type} : DataW H := .agg [.lit (.int .u8 0), .lit (.int .u8 1), .lit (.int .u8 28), .lit (.int .u8 2), .lit (.int .u8 29), .lit (.int .u8 14), .lit (.int .u8 24), .lit (.int .u8 3), .lit (.int .u8 30), .lit (.int .u8 22), .lit (.int .u8 20), .lit (.int .u8 15), .lit (.int .u8 25), .lit (.int .u8 17), .lit (.int .u8 4), .lit (.int .u8 8), .lit (.int .u8 31), .lit (.int .u8 27), .lit (.int .u8 13), .lit (.int .u8 23), .lit (.int .u8 21), .lit (.int .u8 19), .lit (.int .u8 16), .lit (.int .u8 7), .lit (.int .u8 26), .lit (.int .u8 12), .lit (.int .u8 18), .lit (.int .u8 6), .lit (.int .u8 11), .lit (.int .u8 5), .lit (.int .u8 10), .lit (.int .u8 9)]
def laid_math_bits_deBruijn64tab {H : Type} : DataW H := .agg [.lit (.int .u8 0), .lit (.int .u8 1), .lit (.int .u8 56), .lit (.int .u8 2), .lit (.int .u8 57), .lit (.int .u8 49), .lit (.int .u8 28), .lit (.int .u8 3), .lit (.int .u8 61), .lit (.int .u8 58), .lit (.int .u8 42), .lit (.int .u8 50), .lit (.int .u8 38), .lit (.int .u8 29), .lit (.int .u8 17), .lit (.int .u8 4), .lit (.int .u8 62), .lit (.int .u8 47), .lit (.int .u8 59), .lit (.int .u8 36), .lit (.int .u8 45), .lit (.int .u8 43), .lit (.int .u8 51), .lit (.int .u8 22), .lit (.int .u8 53), .lit (.int .u8 39), .lit (.int .u8 33), .lit (.int .u8 30), .lit (.int .u8 24), .lit (.int .u8 18), .lit (.int .u8 12), .lit (.int .u8 5), .lit (.int .u8 63), .lit (.int .u8 55), .lit (.int .u8 48), .lit (.int .u8 27), .lit (.int .u8 60), .lit (.int .u8 41), .lit (.int .u8 37), .lit (.int .u8 16), .lit (.int .u8 46), .lit (.int .u8 35), .lit (.int .u8 44), .lit (.int .u8 21), .lit (.int .u8 52), .lit (.int .u8 32), .lit (.int .u8 23), .lit (.int .u8 11), .lit (.int .u8 54), .lit (.int .u8 26), .lit (.int .u8 40), .lit (.int .u8 15), .lit (.int .u8 34), .lit (.int .u8 20), .lit (.int .u8 31), .lit (.int .u8 10), .lit (.int .u8 25), .lit (.int .u8 14), .lit (.int .u8 19), .lit (.int .u8 9), .lit (.int .u8 13), .lit (.int .u8 8), .lit (.int .u8 7), .lit (.int .u8 6)]
def laid_internal_strconv_uint64pow10 {H : Type} : DataW H := .agg [.lit (.int .u64 1), .lit (.int .u64 10), .lit (.int .u64 100), .lit (.int .u64 1000), .lit (.int .u64 10000), .lit (.int .u64 100000), .lit (.int .u64 1000000), .lit (.int .u64 10000000), .lit (.int .u64 100000000), .lit (.int .u64 1000000000), .lit (.int .u64 10000000000), .lit (.int .u64 100000000000), .lit (.int .u64 1000000000000), .lit (.int .u64 10000000000000), .lit (.int .u64 100000000000000), .lit (.int .u64 1000000000000000), .lit (.int .u64 10000000000000000), .lit (.int .u64 100000000000000000), .lit (.int .u64 1000000000000000000), .lit (.int .u64 10000000000000000000)]

/-- 'assessorlaw43.FingerprintSymbols': WHATEVER THE INPUT: true; the input reads as it did. -/
def fingerprintSymbolsSpec : ChangeSpec := { name := "fingerprintSymbols", fn := fun _ => fun
  | [d1, d2, d3, d4] => { results := [.lit (.bool true)], args := [d1, d2, d3, d4] }
  | _ => none }
def fingerprintSymbolsRow : OpenClaim := { program := "ytpkjiimcoepjpaadoor", sum := "5f00a2accc073ab40855c42166bedd891d361c10d70b8050e227b65c6110f7c9", func := "assessor/assessorlaw43.FingerprintSymbols", spec := "fingerprintSymbols", unfollowed := true, recurses := true, named := ["internal/strconv.uint64pow10", "math/bits.deBruijn32tab", "math/bits.deBruijn64tab"], loops := true, plainKeys := false, apart := false, laid := [("math/bits.deBruijn32tab", laid_math_bits_deBruijn32tab), ("math/bits.deBruijn64tab", laid_math_bits_deBruijn64tab), ("internal/strconv.uint64pow10", laid_internal_strconv_uint64pow10)] }
def FingerprintSymbolsSaid : Prop := fingerprintSymbolsRow.holds Tryd.pinned (OpenSpec.ofChange fingerprintSymbolsSpec)

/-- ITS FALSE NEIGHBOUR: 'it returns false'. Refute it at one input. -/
def fingerprintSymbolsWrong : ChangeSpec := { name := "fingerprintSymbols", fn := fun _ => fun
  | [d1, d2, d3, d4] => { results := [.lit (.bool false)], args := [d1, d2, d3, d4] }
  | _ => none }
def FingerprintSymbolsWrongFalsely : Prop := fingerprintSymbolsRow.holds Tryd.pinned (OpenSpec.ofChange fingerprintSymbolsWrong)

/-- 'assessorlaw43.FingerprintHashes': WHATEVER THE INPUT: true; the input reads as it did. -/
def fingerprintHashesSpec : ChangeSpec := { name := "fingerprintHashes", fn := fun _ => fun
  | [d1, d2, d3, d4, d5] => { results := [.lit (.bool true)], args := [d1, d2, d3, d4, d5] }
  | _ => none }
def fingerprintHashesRow : OpenClaim := { program := "ytpkjiimcoepjpaadoor", sum := "5f00a2accc073ab40855c42166bedd891d361c10d70b8050e227b65c6110f7c9", func := "assessor/assessorlaw43.FingerprintHashes", spec := "fingerprintHashes", unfollowed := true, recurses := true, named := ["internal/strconv.uint64pow10", "math/bits.deBruijn32tab", "math/bits.deBruijn64tab"], plainKeys := false, apart := false, laid := [("math/bits.deBruijn32tab", laid_math_bits_deBruijn32tab), ("math/bits.deBruijn64tab", laid_math_bits_deBruijn64tab), ("internal/strconv.uint64pow10", laid_internal_strconv_uint64pow10)] }
def FingerprintHashesSaid : Prop := fingerprintHashesRow.holds Tryd.pinned (OpenSpec.ofChange fingerprintHashesSpec)

/-- ITS FALSE NEIGHBOUR: 'it returns false'. Refute it at one input. -/
def fingerprintHashesWrong : ChangeSpec := { name := "fingerprintHashes", fn := fun _ => fun
  | [d1, d2, d3, d4, d5] => { results := [.lit (.bool false)], args := [d1, d2, d3, d4, d5] }
  | _ => none }
def FingerprintHashesWrongFalsely : Prop := fingerprintHashesRow.holds Tryd.pinned (OpenSpec.ofChange fingerprintHashesWrong)

/-- 'assessorlaw43.FingerprintRolls': WHATEVER THE INPUT: true; the input reads as it did. -/
def fingerprintRollsSpec : ChangeSpec := { name := "fingerprintRolls", fn := fun _ => fun
  | [d1, d2] => { results := [.lit (.bool true)], args := [d1, d2] }
  | _ => none }
def fingerprintRollsRow : OpenClaim := { program := "ytpkjiimcoepjpaadoor", sum := "5f00a2accc073ab40855c42166bedd891d361c10d70b8050e227b65c6110f7c9", func := "assessor/assessorlaw43.FingerprintRolls", spec := "fingerprintRolls", unfollowed := true, recurses := true, named := ["internal/strconv.uint64pow10", "math/bits.deBruijn32tab", "math/bits.deBruijn64tab"], plainKeys := false, apart := false, laid := [("math/bits.deBruijn32tab", laid_math_bits_deBruijn32tab), ("math/bits.deBruijn64tab", laid_math_bits_deBruijn64tab), ("internal/strconv.uint64pow10", laid_internal_strconv_uint64pow10)] }
def FingerprintRollsSaid : Prop := fingerprintRollsRow.holds Tryd.pinned (OpenSpec.ofChange fingerprintRollsSpec)

/-- ITS FALSE NEIGHBOUR: 'it returns false'. Refute it at one input. -/
def fingerprintRollsWrong : ChangeSpec := { name := "fingerprintRolls", fn := fun _ => fun
  | [d1, d2] => { results := [.lit (.bool false)], args := [d1, d2] }
  | _ => none }
def FingerprintRollsWrongFalsely : Prop := fingerprintRollsRow.holds Tryd.pinned (OpenSpec.ofChange fingerprintRollsWrong)

/-- 'assessorlaw43.FingerprintWinnows': WHATEVER THE INPUT: true; the input reads as it did. -/
def fingerprintWinnowsSpec : ChangeSpec := { name := "fingerprintWinnows", fn := fun _ => fun
  | [d1, d2, d3, d4] => { results := [.lit (.bool true)], args := [d1, d2, d3, d4] }
  | _ => none }
def fingerprintWinnowsRow : OpenClaim := { program := "ytpkjiimcoepjpaadoor", sum := "5f00a2accc073ab40855c42166bedd891d361c10d70b8050e227b65c6110f7c9", func := "assessor/assessorlaw43.FingerprintWinnows", spec := "fingerprintWinnows", unfollowed := true, recurses := true, named := ["internal/strconv.uint64pow10", "math/bits.deBruijn32tab", "math/bits.deBruijn64tab"], plainKeys := false, apart := false, laid := [("math/bits.deBruijn32tab", laid_math_bits_deBruijn32tab), ("math/bits.deBruijn64tab", laid_math_bits_deBruijn64tab), ("internal/strconv.uint64pow10", laid_internal_strconv_uint64pow10)] }
def FingerprintWinnowsSaid : Prop := fingerprintWinnowsRow.holds Tryd.pinned (OpenSpec.ofChange fingerprintWinnowsSpec)

/-- ITS FALSE NEIGHBOUR: 'it returns false'. Refute it at one input. -/
def fingerprintWinnowsWrong : ChangeSpec := { name := "fingerprintWinnows", fn := fun _ => fun
  | [d1, d2, d3, d4] => { results := [.lit (.bool false)], args := [d1, d2, d3, d4] }
  | _ => none }
def FingerprintWinnowsWrongFalsely : Prop := fingerprintWinnowsRow.holds Tryd.pinned (OpenSpec.ofChange fingerprintWinnowsWrong)

/-- 'assessorlaw43.FingerprintDense': WHATEVER THE INPUT: true; the input reads as it did. -/
def fingerprintDenseSpec : ChangeSpec := { name := "fingerprintDense", fn := fun _ => fun
  | [d1, d2] => { results := [.lit (.bool true)], args := [d1, d2] }
  | _ => none }
def fingerprintDenseRow : OpenClaim := { program := "ytpkjiimcoepjpaadoor", sum := "5f00a2accc073ab40855c42166bedd891d361c10d70b8050e227b65c6110f7c9", func := "assessor/assessorlaw43.FingerprintDense", spec := "fingerprintDense", unfollowed := true, recurses := true, named := ["internal/strconv.uint64pow10", "math/bits.deBruijn32tab", "math/bits.deBruijn64tab"], plainKeys := false, apart := false, laid := [("math/bits.deBruijn32tab", laid_math_bits_deBruijn32tab), ("math/bits.deBruijn64tab", laid_math_bits_deBruijn64tab), ("internal/strconv.uint64pow10", laid_internal_strconv_uint64pow10)] }
def FingerprintDenseSaid : Prop := fingerprintDenseRow.holds Tryd.pinned (OpenSpec.ofChange fingerprintDenseSpec)

/-- ITS FALSE NEIGHBOUR: 'it returns false'. Refute it at one input. -/
def fingerprintDenseWrong : ChangeSpec := { name := "fingerprintDense", fn := fun _ => fun
  | [d1, d2] => { results := [.lit (.bool false)], args := [d1, d2] }
  | _ => none }
def FingerprintDenseWrongFalsely : Prop := fingerprintDenseRow.holds Tryd.pinned (OpenSpec.ofChange fingerprintDenseWrong)

/-- 'assessorlaw43.FingerprintGuarantee': WHATEVER THE INPUT: true; the input reads as it did. -/
def fingerprintGuaranteeSpec : ChangeSpec := { name := "fingerprintGuarantee", fn := fun _ => fun
  | [d1, d2, d3, d4, d5, d6, d7] => { results := [.lit (.bool true)], args := [d1, d2, d3, d4, d5, d6, d7] }
  | _ => none }
def fingerprintGuaranteeRow : OpenClaim := { program := "ytpkjiimcoepjpaadoor", sum := "5f00a2accc073ab40855c42166bedd891d361c10d70b8050e227b65c6110f7c9", func := "assessor/assessorlaw43.FingerprintGuarantee", spec := "fingerprintGuarantee", unfollowed := true, recurses := true, named := ["internal/strconv.uint64pow10", "math/bits.deBruijn32tab", "math/bits.deBruijn64tab"], plainKeys := false, apart := false, laid := [("math/bits.deBruijn32tab", laid_math_bits_deBruijn32tab), ("math/bits.deBruijn64tab", laid_math_bits_deBruijn64tab), ("internal/strconv.uint64pow10", laid_internal_strconv_uint64pow10)] }
def FingerprintGuaranteeSaid : Prop := fingerprintGuaranteeRow.holds Tryd.pinned (OpenSpec.ofChange fingerprintGuaranteeSpec)

/-- ITS FALSE NEIGHBOUR: 'it returns false'. Refute it at one input. -/
def fingerprintGuaranteeWrong : ChangeSpec := { name := "fingerprintGuarantee", fn := fun _ => fun
  | [d1, d2, d3, d4, d5, d6, d7] => { results := [.lit (.bool false)], args := [d1, d2, d3, d4, d5, d6, d7] }
  | _ => none }
def FingerprintGuaranteeWrongFalsely : Prop := fingerprintGuaranteeRow.holds Tryd.pinned (OpenSpec.ofChange fingerprintGuaranteeWrong)

/-- 'assessorlaw43.FingerprintLocal': WHATEVER THE INPUT: true; the input reads as it did. -/
def fingerprintLocalSpec : ChangeSpec := { name := "fingerprintLocal", fn := fun _ => fun
  | [d1, d2, d3, d4] => { results := [.lit (.bool true)], args := [d1, d2, d3, d4] }
  | _ => none }
def fingerprintLocalRow : OpenClaim := { program := "ytpkjiimcoepjpaadoor", sum := "5f00a2accc073ab40855c42166bedd891d361c10d70b8050e227b65c6110f7c9", func := "assessor/assessorlaw43.FingerprintLocal", spec := "fingerprintLocal", unfollowed := true, recurses := true, named := ["internal/strconv.uint64pow10", "math/bits.deBruijn32tab", "math/bits.deBruijn64tab"], plainKeys := false, apart := false, laid := [("math/bits.deBruijn32tab", laid_math_bits_deBruijn32tab), ("math/bits.deBruijn64tab", laid_math_bits_deBruijn64tab), ("internal/strconv.uint64pow10", laid_internal_strconv_uint64pow10)] }
def FingerprintLocalSaid : Prop := fingerprintLocalRow.holds Tryd.pinned (OpenSpec.ofChange fingerprintLocalSpec)

/-- ITS FALSE NEIGHBOUR: 'it returns false'. Refute it at one input. -/
def fingerprintLocalWrong : ChangeSpec := { name := "fingerprintLocal", fn := fun _ => fun
  | [d1, d2, d3, d4] => { results := [.lit (.bool false)], args := [d1, d2, d3, d4] }
  | _ => none }
def FingerprintLocalWrongFalsely : Prop := fingerprintLocalRow.holds Tryd.pinned (OpenSpec.ofChange fingerprintLocalWrong)

/- THE SECOND FORM. 'bulk': how many values and letters a reading holds, each counted each time it is reached (what is shared counts as often as it is met; a slice's spare places count too). A statement '..UptoSaid' is the law's where the arguments, and the package variables that the reading takes, are together of bulk at most 1048576: NARROWER than '..Said'. Prove '..Said' where nothing that the law and all that it calls make is longer than what came in: it says more and counts as full. Else prove '..UptoSaid'. A law counts once. -/
mutual
def uptoBulk {H : Type} : DataW H → Nat
  | .lit (.string bytes) => bytes.length + 1
  | .lit _ => 1
  | .nil => 1
  | .ptr d => uptoBulk d + 1
  | .slice elems spare => uptoBulkAll elems + uptoBulkAll spare + 1
  | .agg parts => uptoBulkAll parts + 1
  | .iface _ d => uptoBulk d + 1
  | .map entries => uptoBulkEntries entries + 1
  | .held _ => 1
def uptoBulkAll {H : Type} : List (DataW H) → Nat
  | [] => 0
  | d :: r => uptoBulk d + uptoBulkAll r
def uptoBulkEntries {H : Type} : List (Lit × DataW H) → Nat
  | [] => 0
  | x :: r => uptoBulkEntry x + uptoBulkEntries r
def uptoBulkEntry {H : Type} : Lit × DataW H → Nat
  | (.string bytes, d) => bytes.length + uptoBulk d + 1
  | (_, d) => uptoBulk d + 1
 end
def uptoSmall : (H : Type) → List (DataW H) → Bool := fun _ ds => decide (uptoBulkAll ds ≤ 1048576)
def OpenSpec.upto (s : _root_.Go.ChangeSpec) : _root_.Go.OpenSpec := { _root_.Go.OpenSpec.ofChange s with cond := some uptoSmall }

/-- 'assessorlaw43.FingerprintSymbols', WHERE WHAT IT READS IS OF BULK AT MOST 1048576: true; the input reads as it did. -/
def fingerprintSymbolsUptoRow : OpenClaim := { program := "ytpkjiimcoepjpaadoor", sum := "5f00a2accc073ab40855c42166bedd891d361c10d70b8050e227b65c6110f7c9", func := "assessor/assessorlaw43.FingerprintSymbols", spec := "fingerprintSymbols", unfollowed := true, recurses := true, named := ["internal/strconv.uint64pow10", "math/bits.deBruijn32tab", "math/bits.deBruijn64tab"], loops := true, plainKeys := false, apart := false, laid := [("math/bits.deBruijn32tab", laid_math_bits_deBruijn32tab), ("math/bits.deBruijn64tab", laid_math_bits_deBruijn64tab), ("internal/strconv.uint64pow10", laid_internal_strconv_uint64pow10)], narrowed := true }
def FingerprintSymbolsUptoSaid : Prop := fingerprintSymbolsUptoRow.holds Tryd.pinned (OpenSpec.upto fingerprintSymbolsSpec)

/-- 'assessorlaw43.FingerprintHashes', WHERE WHAT IT READS IS OF BULK AT MOST 1048576: true; the input reads as it did. -/
def fingerprintHashesUptoRow : OpenClaim := { program := "ytpkjiimcoepjpaadoor", sum := "5f00a2accc073ab40855c42166bedd891d361c10d70b8050e227b65c6110f7c9", func := "assessor/assessorlaw43.FingerprintHashes", spec := "fingerprintHashes", unfollowed := true, recurses := true, named := ["internal/strconv.uint64pow10", "math/bits.deBruijn32tab", "math/bits.deBruijn64tab"], plainKeys := false, apart := false, laid := [("math/bits.deBruijn32tab", laid_math_bits_deBruijn32tab), ("math/bits.deBruijn64tab", laid_math_bits_deBruijn64tab), ("internal/strconv.uint64pow10", laid_internal_strconv_uint64pow10)], narrowed := true }
def FingerprintHashesUptoSaid : Prop := fingerprintHashesUptoRow.holds Tryd.pinned (OpenSpec.upto fingerprintHashesSpec)

/-- 'assessorlaw43.FingerprintRolls', WHERE WHAT IT READS IS OF BULK AT MOST 1048576: true; the input reads as it did. -/
def fingerprintRollsUptoRow : OpenClaim := { program := "ytpkjiimcoepjpaadoor", sum := "5f00a2accc073ab40855c42166bedd891d361c10d70b8050e227b65c6110f7c9", func := "assessor/assessorlaw43.FingerprintRolls", spec := "fingerprintRolls", unfollowed := true, recurses := true, named := ["internal/strconv.uint64pow10", "math/bits.deBruijn32tab", "math/bits.deBruijn64tab"], plainKeys := false, apart := false, laid := [("math/bits.deBruijn32tab", laid_math_bits_deBruijn32tab), ("math/bits.deBruijn64tab", laid_math_bits_deBruijn64tab), ("internal/strconv.uint64pow10", laid_internal_strconv_uint64pow10)], narrowed := true }
def FingerprintRollsUptoSaid : Prop := fingerprintRollsUptoRow.holds Tryd.pinned (OpenSpec.upto fingerprintRollsSpec)

/-- 'assessorlaw43.FingerprintWinnows', WHERE WHAT IT READS IS OF BULK AT MOST 1048576: true; the input reads as it did. -/
def fingerprintWinnowsUptoRow : OpenClaim := { program := "ytpkjiimcoepjpaadoor", sum := "5f00a2accc073ab40855c42166bedd891d361c10d70b8050e227b65c6110f7c9", func := "assessor/assessorlaw43.FingerprintWinnows", spec := "fingerprintWinnows", unfollowed := true, recurses := true, named := ["internal/strconv.uint64pow10", "math/bits.deBruijn32tab", "math/bits.deBruijn64tab"], plainKeys := false, apart := false, laid := [("math/bits.deBruijn32tab", laid_math_bits_deBruijn32tab), ("math/bits.deBruijn64tab", laid_math_bits_deBruijn64tab), ("internal/strconv.uint64pow10", laid_internal_strconv_uint64pow10)], narrowed := true }
def FingerprintWinnowsUptoSaid : Prop := fingerprintWinnowsUptoRow.holds Tryd.pinned (OpenSpec.upto fingerprintWinnowsSpec)

/-- 'assessorlaw43.FingerprintDense', WHERE WHAT IT READS IS OF BULK AT MOST 1048576: true; the input reads as it did. -/
def fingerprintDenseUptoRow : OpenClaim := { program := "ytpkjiimcoepjpaadoor", sum := "5f00a2accc073ab40855c42166bedd891d361c10d70b8050e227b65c6110f7c9", func := "assessor/assessorlaw43.FingerprintDense", spec := "fingerprintDense", unfollowed := true, recurses := true, named := ["internal/strconv.uint64pow10", "math/bits.deBruijn32tab", "math/bits.deBruijn64tab"], plainKeys := false, apart := false, laid := [("math/bits.deBruijn32tab", laid_math_bits_deBruijn32tab), ("math/bits.deBruijn64tab", laid_math_bits_deBruijn64tab), ("internal/strconv.uint64pow10", laid_internal_strconv_uint64pow10)], narrowed := true }
def FingerprintDenseUptoSaid : Prop := fingerprintDenseUptoRow.holds Tryd.pinned (OpenSpec.upto fingerprintDenseSpec)

/-- 'assessorlaw43.FingerprintGuarantee', WHERE WHAT IT READS IS OF BULK AT MOST 1048576: true; the input reads as it did. -/
def fingerprintGuaranteeUptoRow : OpenClaim := { program := "ytpkjiimcoepjpaadoor", sum := "5f00a2accc073ab40855c42166bedd891d361c10d70b8050e227b65c6110f7c9", func := "assessor/assessorlaw43.FingerprintGuarantee", spec := "fingerprintGuarantee", unfollowed := true, recurses := true, named := ["internal/strconv.uint64pow10", "math/bits.deBruijn32tab", "math/bits.deBruijn64tab"], plainKeys := false, apart := false, laid := [("math/bits.deBruijn32tab", laid_math_bits_deBruijn32tab), ("math/bits.deBruijn64tab", laid_math_bits_deBruijn64tab), ("internal/strconv.uint64pow10", laid_internal_strconv_uint64pow10)], narrowed := true }
def FingerprintGuaranteeUptoSaid : Prop := fingerprintGuaranteeUptoRow.holds Tryd.pinned (OpenSpec.upto fingerprintGuaranteeSpec)

/-- 'assessorlaw43.FingerprintLocal', WHERE WHAT IT READS IS OF BULK AT MOST 1048576: true; the input reads as it did. -/
def fingerprintLocalUptoRow : OpenClaim := { program := "ytpkjiimcoepjpaadoor", sum := "5f00a2accc073ab40855c42166bedd891d361c10d70b8050e227b65c6110f7c9", func := "assessor/assessorlaw43.FingerprintLocal", spec := "fingerprintLocal", unfollowed := true, recurses := true, named := ["internal/strconv.uint64pow10", "math/bits.deBruijn32tab", "math/bits.deBruijn64tab"], plainKeys := false, apart := false, laid := [("math/bits.deBruijn32tab", laid_math_bits_deBruijn32tab), ("math/bits.deBruijn64tab", laid_math_bits_deBruijn64tab), ("internal/strconv.uint64pow10", laid_internal_strconv_uint64pow10)], narrowed := true }
def FingerprintLocalUptoSaid : Prop := fingerprintLocalUptoRow.holds Tryd.pinned (OpenSpec.upto fingerprintLocalSpec)

end Rows
end Go.Proofs.YtpkjiimcoepjpaaDoor
