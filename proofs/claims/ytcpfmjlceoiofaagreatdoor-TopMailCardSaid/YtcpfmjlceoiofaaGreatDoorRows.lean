/-
  NARROWER THAN 'FOR EVERY INPUT', by the rows' own cells (each row's printed sentence says how): TopLoops: laid · TopFull: laid · TopOrphans: laid · TopMail: laid · TopRefuses: laid.
  DERIVED. THE GIVEN ROWS OF THIS SEAT. 5 by the template 'for every input the law returns true; each argument reads behind the call as it read before'; 0 by the template 'total and deterministic' (their statements: YtcpfmjlceoiofaaGreatDoorTotals.lean).
  GIVEN WITH THE SEED: the statements are not yours to turn. If you find one false, say at which input.
  Laid BY PROGRAM, IN A SANDBOX (cutbox-rows.mjs): the forced cells as the released guide's own fill.sh prints them over the translation 18386ae3b3c4d5b8… (all of the seat's roots in one cut). By AI agents, Wed Nov 11 2026. No macro, syntax, notation, axiom, sorry.
-/
import Derived.Test.YtcpfmjlceoiofaaGreatDoorChecked
import GoSem.Claim
import GoSem.ClaimJoined
import GoSem.ClaimMapViews
import Derived.JoinedTies
import Derived.KernelRfl
namespace Go.Proofs.YtcpfmjlceoiofaaGreatDoor
/- THE CELL 'sum', in the pinned program and in every row, IS THE sha256 OF THE DUMP (.gsa) THAT YtcpfmjlceoiofaaGreatDoorProg.lean LOADS. Nothing in Lean hashes anything: it is a label: what it is worth is what the hold of that sum in a sandbox is worth. -/
noncomputable def Tryz.pinned : Pinned := { name := "ytcpfmjlceoiofaagreatdoor", sum := "18386ae3b3c4d5b87a587d88ac7b6e49a477220f29346a2246fa094bf6a3f7d2", checked := Tryz.checked }
namespace Rows
def none {H : Type} : Left H := { results := [], args := [] }

/- WHAT THE LISTED PACKAGE-LEVEL VARIABLES READ AS WHEN THE CALL BEGINS. Each datum BY PROGRAM (the guide's laid-datum.mjs) off the statement by which the dump's own 'gosem.cut.vars' lays the variable. In a bare row this is a premise. The card (YtcpfmjlceoiofaaGreatDoorCards.lean) ties it to the program's text. -/
def laid_errors_errorType {H : Type} : DataW H := .iface "internal/reflectlite.rtype" (.agg [.ptr (.lit (.string [101, 114, 114, 111, 114]))])
def laid_taffrail_pipe_errWait {H : Type} : DataW H := .iface "*errors.errorString" (.ptr (.agg [.lit (.string [119, 97, 105, 116])]))
def laid_taffrail_pipe_errBroken {H : Type} : DataW H := .iface "*errors.errorString" (.ptr (.agg [.lit (.string [98, 114, 111, 107, 101, 110])]))
def laid_taffrail_sem_errRange {H : Type} : DataW H := .iface "*errors.errorString" (.ptr (.agg [.lit (.string [116, 111, 111, 32, 109, 117, 99, 104])]))
def laid_taffrail_sem_errAgain {H : Type} : DataW H := .iface "*errors.errorString" (.ptr (.agg [.lit (.string [114, 101, 102, 117, 115, 101, 100])]))
def laid_taffrail_sem_errWait {H : Type} : DataW H := .iface "*errors.errorString" (.ptr (.agg [.lit (.string [119, 97, 105, 116])]))
def laid_internal_strconv_uint64pow10 {H : Type} : DataW H := .agg [.lit (.int .u64 1), .lit (.int .u64 10), .lit (.int .u64 100), .lit (.int .u64 1000), .lit (.int .u64 10000), .lit (.int .u64 100000), .lit (.int .u64 1000000), .lit (.int .u64 10000000), .lit (.int .u64 100000000), .lit (.int .u64 1000000000), .lit (.int .u64 10000000000), .lit (.int .u64 100000000000), .lit (.int .u64 1000000000000), .lit (.int .u64 10000000000000), .lit (.int .u64 100000000000000), .lit (.int .u64 1000000000000000), .lit (.int .u64 10000000000000000), .lit (.int .u64 100000000000000000), .lit (.int .u64 1000000000000000000), .lit (.int .u64 10000000000000000000)]
def laid_math_bits_deBruijn32tab {H : Type} : DataW H := .agg [.lit (.int .u8 0), .lit (.int .u8 1), .lit (.int .u8 28), .lit (.int .u8 2), .lit (.int .u8 29), .lit (.int .u8 14), .lit (.int .u8 24), .lit (.int .u8 3), .lit (.int .u8 30), .lit (.int .u8 22), .lit (.int .u8 20), .lit (.int .u8 15), .lit (.int .u8 25), .lit (.int .u8 17), .lit (.int .u8 4), .lit (.int .u8 8), .lit (.int .u8 31), .lit (.int .u8 27), .lit (.int .u8 13), .lit (.int .u8 23), .lit (.int .u8 21), .lit (.int .u8 19), .lit (.int .u8 16), .lit (.int .u8 7), .lit (.int .u8 26), .lit (.int .u8 12), .lit (.int .u8 18), .lit (.int .u8 6), .lit (.int .u8 11), .lit (.int .u8 5), .lit (.int .u8 10), .lit (.int .u8 9)]
def laid_math_bits_deBruijn64tab {H : Type} : DataW H := .agg [.lit (.int .u8 0), .lit (.int .u8 1), .lit (.int .u8 56), .lit (.int .u8 2), .lit (.int .u8 57), .lit (.int .u8 49), .lit (.int .u8 28), .lit (.int .u8 3), .lit (.int .u8 61), .lit (.int .u8 58), .lit (.int .u8 42), .lit (.int .u8 50), .lit (.int .u8 38), .lit (.int .u8 29), .lit (.int .u8 17), .lit (.int .u8 4), .lit (.int .u8 62), .lit (.int .u8 47), .lit (.int .u8 59), .lit (.int .u8 36), .lit (.int .u8 45), .lit (.int .u8 43), .lit (.int .u8 51), .lit (.int .u8 22), .lit (.int .u8 53), .lit (.int .u8 39), .lit (.int .u8 33), .lit (.int .u8 30), .lit (.int .u8 24), .lit (.int .u8 18), .lit (.int .u8 12), .lit (.int .u8 5), .lit (.int .u8 63), .lit (.int .u8 55), .lit (.int .u8 48), .lit (.int .u8 27), .lit (.int .u8 60), .lit (.int .u8 41), .lit (.int .u8 37), .lit (.int .u8 16), .lit (.int .u8 46), .lit (.int .u8 35), .lit (.int .u8 44), .lit (.int .u8 21), .lit (.int .u8 52), .lit (.int .u8 32), .lit (.int .u8 23), .lit (.int .u8 11), .lit (.int .u8 54), .lit (.int .u8 26), .lit (.int .u8 40), .lit (.int .u8 15), .lit (.int .u8 34), .lit (.int .u8 20), .lit (.int .u8 31), .lit (.int .u8 10), .lit (.int .u8 25), .lit (.int .u8 14), .lit (.int .u8 19), .lit (.int .u8 9), .lit (.int .u8 13), .lit (.int .u8 8), .lit (.int .u8 7), .lit (.int .u8 6)]

/-- 'taffrailtop.TopLoops': WHATEVER THE INPUT: true; the input reads as it did. -/
def topLoopsSpec : ChangeSpec := { name := "topLoops", fn := fun _ => fun
  | [d1, d2, d3] => { results := [.lit (.bool true)], args := [d1, d2, d3] }
  | _ => none }
def topLoopsRow : OpenClaim := { program := "ytcpfmjlceoiofaagreatdoor", sum := "18386ae3b3c4d5b87a587d88ac7b6e49a477220f29346a2246fa094bf6a3f7d2", func := "taffrail/taffrailtop.TopLoops", spec := "topLoops", inPlace := ["internal/abi.NoEscape", "internal/bytealg.MakeNoZero", "internal/reflectlite.ValueOf", "(internal/reflectlite.Value).Type", "(internal/reflectlite.Value).IsNil", "internal/reflectlite.TypeOf", "(internal/reflectlite.Value).Elem", "(internal/reflectlite.Value).Set", "maps.clone"], unfollowed := true, recurses := true, named := ["errors.errorType", "taffrail/pipe.errWait", "taffrail/pipe.errBroken", "taffrail/sem.errRange", "taffrail/sem.errAgain", "taffrail/sem.errWait", "internal/strconv.uint64pow10", "math/bits.deBruijn32tab", "math/bits.deBruijn64tab"], plainKeys := false, apart := false, laid := [("errors.errorType", laid_errors_errorType), ("taffrail/pipe.errWait", laid_taffrail_pipe_errWait), ("taffrail/pipe.errBroken", laid_taffrail_pipe_errBroken), ("taffrail/sem.errRange", laid_taffrail_sem_errRange), ("taffrail/sem.errAgain", laid_taffrail_sem_errAgain), ("taffrail/sem.errWait", laid_taffrail_sem_errWait), ("internal/strconv.uint64pow10", laid_internal_strconv_uint64pow10), ("math/bits.deBruijn32tab", laid_math_bits_deBruijn32tab), ("math/bits.deBruijn64tab", laid_math_bits_deBruijn64tab)] }
def TopLoopsSaid : Prop := topLoopsRow.holds Tryz.pinned (OpenSpec.ofChange topLoopsSpec)

/-- ITS FALSE NEIGHBOUR: 'it returns false'. Refute it at one input. -/
def topLoopsWrong : ChangeSpec := { name := "topLoops", fn := fun _ => fun
  | [d1, d2, d3] => { results := [.lit (.bool false)], args := [d1, d2, d3] }
  | _ => none }
def TopLoopsWrongFalsely : Prop := topLoopsRow.holds Tryz.pinned (OpenSpec.ofChange topLoopsWrong)

/-- 'taffrailtop.TopFull': WHATEVER THE INPUT: true; the input reads as it did. -/
def topFullSpec : ChangeSpec := { name := "topFull", fn := fun _ => fun
  | [d1, d2] => { results := [.lit (.bool true)], args := [d1, d2] }
  | _ => none }
def topFullRow : OpenClaim := { program := "ytcpfmjlceoiofaagreatdoor", sum := "18386ae3b3c4d5b87a587d88ac7b6e49a477220f29346a2246fa094bf6a3f7d2", func := "taffrail/taffrailtop.TopFull", spec := "topFull", inPlace := ["internal/abi.NoEscape", "internal/bytealg.MakeNoZero", "internal/reflectlite.ValueOf", "(internal/reflectlite.Value).Type", "(internal/reflectlite.Value).IsNil", "internal/reflectlite.TypeOf", "(internal/reflectlite.Value).Elem", "(internal/reflectlite.Value).Set", "maps.clone"], unfollowed := true, recurses := true, named := ["errors.errorType", "taffrail/pipe.errWait", "taffrail/pipe.errBroken", "taffrail/sem.errRange", "taffrail/sem.errAgain", "taffrail/sem.errWait", "internal/strconv.uint64pow10", "math/bits.deBruijn32tab", "math/bits.deBruijn64tab"], plainKeys := false, apart := false, laid := [("errors.errorType", laid_errors_errorType), ("taffrail/pipe.errWait", laid_taffrail_pipe_errWait), ("taffrail/pipe.errBroken", laid_taffrail_pipe_errBroken), ("taffrail/sem.errRange", laid_taffrail_sem_errRange), ("taffrail/sem.errAgain", laid_taffrail_sem_errAgain), ("taffrail/sem.errWait", laid_taffrail_sem_errWait), ("internal/strconv.uint64pow10", laid_internal_strconv_uint64pow10), ("math/bits.deBruijn32tab", laid_math_bits_deBruijn32tab), ("math/bits.deBruijn64tab", laid_math_bits_deBruijn64tab)] }
def TopFullSaid : Prop := topFullRow.holds Tryz.pinned (OpenSpec.ofChange topFullSpec)

/-- ITS FALSE NEIGHBOUR: 'it returns false'. Refute it at one input. -/
def topFullWrong : ChangeSpec := { name := "topFull", fn := fun _ => fun
  | [d1, d2] => { results := [.lit (.bool false)], args := [d1, d2] }
  | _ => none }
def TopFullWrongFalsely : Prop := topFullRow.holds Tryz.pinned (OpenSpec.ofChange topFullWrong)

/-- 'taffrailtop.TopOrphans': WHATEVER THE INPUT: true; the input reads as it did. -/
def topOrphansSpec : ChangeSpec := { name := "topOrphans", fn := fun _ => fun
  | [d1, d2, d3] => { results := [.lit (.bool true)], args := [d1, d2, d3] }
  | _ => none }
def topOrphansRow : OpenClaim := { program := "ytcpfmjlceoiofaagreatdoor", sum := "18386ae3b3c4d5b87a587d88ac7b6e49a477220f29346a2246fa094bf6a3f7d2", func := "taffrail/taffrailtop.TopOrphans", spec := "topOrphans", inPlace := ["internal/abi.NoEscape", "internal/bytealg.MakeNoZero", "internal/reflectlite.ValueOf", "(internal/reflectlite.Value).Type", "(internal/reflectlite.Value).IsNil", "internal/reflectlite.TypeOf", "(internal/reflectlite.Value).Elem", "(internal/reflectlite.Value).Set", "maps.clone"], unfollowed := true, recurses := true, named := ["errors.errorType", "taffrail/pipe.errWait", "taffrail/pipe.errBroken", "taffrail/sem.errRange", "taffrail/sem.errAgain", "taffrail/sem.errWait", "internal/strconv.uint64pow10", "math/bits.deBruijn32tab", "math/bits.deBruijn64tab"], plainKeys := false, apart := false, laid := [("errors.errorType", laid_errors_errorType), ("taffrail/pipe.errWait", laid_taffrail_pipe_errWait), ("taffrail/pipe.errBroken", laid_taffrail_pipe_errBroken), ("taffrail/sem.errRange", laid_taffrail_sem_errRange), ("taffrail/sem.errAgain", laid_taffrail_sem_errAgain), ("taffrail/sem.errWait", laid_taffrail_sem_errWait), ("internal/strconv.uint64pow10", laid_internal_strconv_uint64pow10), ("math/bits.deBruijn32tab", laid_math_bits_deBruijn32tab), ("math/bits.deBruijn64tab", laid_math_bits_deBruijn64tab)] }
def TopOrphansSaid : Prop := topOrphansRow.holds Tryz.pinned (OpenSpec.ofChange topOrphansSpec)

/-- ITS FALSE NEIGHBOUR: 'it returns false'. Refute it at one input. -/
def topOrphansWrong : ChangeSpec := { name := "topOrphans", fn := fun _ => fun
  | [d1, d2, d3] => { results := [.lit (.bool false)], args := [d1, d2, d3] }
  | _ => none }
def TopOrphansWrongFalsely : Prop := topOrphansRow.holds Tryz.pinned (OpenSpec.ofChange topOrphansWrong)

/-- 'taffrailtop.TopMail': WHATEVER THE INPUT: true; the input reads as it did. -/
def topMailSpec : ChangeSpec := { name := "topMail", fn := fun _ => fun
  | [d1, d2] => { results := [.lit (.bool true)], args := [d1, d2] }
  | _ => none }
def topMailRow : OpenClaim := { program := "ytcpfmjlceoiofaagreatdoor", sum := "18386ae3b3c4d5b87a587d88ac7b6e49a477220f29346a2246fa094bf6a3f7d2", func := "taffrail/taffrailtop.TopMail", spec := "topMail", inPlace := ["internal/abi.NoEscape", "internal/bytealg.MakeNoZero", "internal/reflectlite.ValueOf", "(internal/reflectlite.Value).Type", "(internal/reflectlite.Value).IsNil", "internal/reflectlite.TypeOf", "(internal/reflectlite.Value).Elem", "(internal/reflectlite.Value).Set", "maps.clone"], unfollowed := true, recurses := true, named := ["errors.errorType", "taffrail/pipe.errWait", "taffrail/pipe.errBroken", "taffrail/sem.errRange", "taffrail/sem.errAgain", "taffrail/sem.errWait", "internal/strconv.uint64pow10", "math/bits.deBruijn32tab", "math/bits.deBruijn64tab"], plainKeys := false, apart := false, laid := [("errors.errorType", laid_errors_errorType), ("taffrail/pipe.errWait", laid_taffrail_pipe_errWait), ("taffrail/pipe.errBroken", laid_taffrail_pipe_errBroken), ("taffrail/sem.errRange", laid_taffrail_sem_errRange), ("taffrail/sem.errAgain", laid_taffrail_sem_errAgain), ("taffrail/sem.errWait", laid_taffrail_sem_errWait), ("internal/strconv.uint64pow10", laid_internal_strconv_uint64pow10), ("math/bits.deBruijn32tab", laid_math_bits_deBruijn32tab), ("math/bits.deBruijn64tab", laid_math_bits_deBruijn64tab)] }
def TopMailSaid : Prop := topMailRow.holds Tryz.pinned (OpenSpec.ofChange topMailSpec)

/-- ITS FALSE NEIGHBOUR: 'it returns false'. Refute it at one input. -/
def topMailWrong : ChangeSpec := { name := "topMail", fn := fun _ => fun
  | [d1, d2] => { results := [.lit (.bool false)], args := [d1, d2] }
  | _ => none }
def TopMailWrongFalsely : Prop := topMailRow.holds Tryz.pinned (OpenSpec.ofChange topMailWrong)

/-- 'taffrailtop.TopRefuses': WHATEVER THE INPUT: true; the input reads as it did. -/
def topRefusesSpec : ChangeSpec := { name := "topRefuses", fn := fun _ => fun
  | [d] => { results := [.lit (.bool true)], args := [d] }
  | _ => none }
def topRefusesRow : OpenClaim := { program := "ytcpfmjlceoiofaagreatdoor", sum := "18386ae3b3c4d5b87a587d88ac7b6e49a477220f29346a2246fa094bf6a3f7d2", func := "taffrail/taffrailtop.TopRefuses", spec := "topRefuses", inPlace := ["internal/abi.NoEscape", "internal/bytealg.MakeNoZero", "internal/reflectlite.ValueOf", "(internal/reflectlite.Value).Type", "(internal/reflectlite.Value).IsNil", "internal/reflectlite.TypeOf", "(internal/reflectlite.Value).Elem", "(internal/reflectlite.Value).Set", "maps.clone"], unfollowed := true, recurses := true, named := ["errors.errorType", "taffrail/pipe.errWait", "taffrail/pipe.errBroken", "taffrail/sem.errRange", "taffrail/sem.errAgain", "taffrail/sem.errWait", "internal/strconv.uint64pow10", "math/bits.deBruijn32tab", "math/bits.deBruijn64tab"], plainKeys := false, apart := false, laid := [("errors.errorType", laid_errors_errorType), ("taffrail/pipe.errWait", laid_taffrail_pipe_errWait), ("taffrail/pipe.errBroken", laid_taffrail_pipe_errBroken), ("taffrail/sem.errRange", laid_taffrail_sem_errRange), ("taffrail/sem.errAgain", laid_taffrail_sem_errAgain), ("taffrail/sem.errWait", laid_taffrail_sem_errWait), ("internal/strconv.uint64pow10", laid_internal_strconv_uint64pow10), ("math/bits.deBruijn32tab", laid_math_bits_deBruijn32tab), ("math/bits.deBruijn64tab", laid_math_bits_deBruijn64tab)] }
def TopRefusesSaid : Prop := topRefusesRow.holds Tryz.pinned (OpenSpec.ofChange topRefusesSpec)

/-- ITS FALSE NEIGHBOUR: 'it returns false'. Refute it at one input. -/
def topRefusesWrong : ChangeSpec := { name := "topRefuses", fn := fun _ => fun
  | [d] => { results := [.lit (.bool false)], args := [d] }
  | _ => none }
def TopRefusesWrongFalsely : Prop := topRefusesRow.holds Tryz.pinned (OpenSpec.ofChange topRefusesWrong)

/- THE SECOND FORM. 'bulk': how many values and letters a reading holds, each counted each time it is reached (what is shared counts as often as it is met; a slice's spare places count too). A statement '..UptoSaid' is the law's where the arguments, and the package variables that the reading takes, are together of bulk at most 1048576: NARROWER than '..Said'. Prove '..Said' where nothing that the law and all that it calls make is longer than what came in: it says more and counts as full. Else prove '..UptoSaid'. A law counts once. -/
mutual
def uptoBulk {H : Type} : DataW H → Nat
  | .lit (.string bytes) => bytes.length + 1
  | .lit _ => 1
  | .nil => 1
  | .ptr d => uptoBulk d + 1
  | .slice elems spare => uptoBulkAll elems + uptoBulkAll spare + 1
  | .agg parts => uptoBulkAll parts + 1
  | .iface _ d => uptoBulk d + 1
  | .map entries => uptoBulkEntries entries + 1
  | .held _ => 1
def uptoBulkAll {H : Type} : List (DataW H) → Nat
  | [] => 0
  | d :: r => uptoBulk d + uptoBulkAll r
def uptoBulkEntries {H : Type} : List (Lit × DataW H) → Nat
  | [] => 0
  | x :: r => uptoBulkEntry x + uptoBulkEntries r
def uptoBulkEntry {H : Type} : Lit × DataW H → Nat
  | (.string bytes, d) => bytes.length + uptoBulk d + 1
  | (_, d) => uptoBulk d + 1
 end
def uptoSmall : (H : Type) → List (DataW H) → Bool := fun _ ds => decide (uptoBulkAll ds ≤ 1048576)
def OpenSpec.upto (s : _root_.Go.ChangeSpec) : _root_.Go.OpenSpec := { _root_.Go.OpenSpec.ofChange s with cond := some uptoSmall }

/-- 'taffrailtop.TopLoops', WHERE WHAT IT READS IS OF BULK AT MOST 1048576: true; the input reads as it did. -/
def topLoopsUptoRow : OpenClaim := { program := "ytcpfmjlceoiofaagreatdoor", sum := "18386ae3b3c4d5b87a587d88ac7b6e49a477220f29346a2246fa094bf6a3f7d2", func := "taffrail/taffrailtop.TopLoops", spec := "topLoops", inPlace := ["internal/abi.NoEscape", "internal/bytealg.MakeNoZero", "internal/reflectlite.ValueOf", "(internal/reflectlite.Value).Type", "(internal/reflectlite.Value).IsNil", "internal/reflectlite.TypeOf", "(internal/reflectlite.Value).Elem", "(internal/reflectlite.Value).Set", "maps.clone"], unfollowed := true, recurses := true, named := ["errors.errorType", "taffrail/pipe.errWait", "taffrail/pipe.errBroken", "taffrail/sem.errRange", "taffrail/sem.errAgain", "taffrail/sem.errWait", "internal/strconv.uint64pow10", "math/bits.deBruijn32tab", "math/bits.deBruijn64tab"], plainKeys := false, apart := false, laid := [("errors.errorType", laid_errors_errorType), ("taffrail/pipe.errWait", laid_taffrail_pipe_errWait), ("taffrail/pipe.errBroken", laid_taffrail_pipe_errBroken), ("taffrail/sem.errRange", laid_taffrail_sem_errRange), ("taffrail/sem.errAgain", laid_taffrail_sem_errAgain), ("taffrail/sem.errWait", laid_taffrail_sem_errWait), ("internal/strconv.uint64pow10", laid_internal_strconv_uint64pow10), ("math/bits.deBruijn32tab", laid_math_bits_deBruijn32tab), ("math/bits.deBruijn64tab", laid_math_bits_deBruijn64tab)], narrowed := true }
def TopLoopsUptoSaid : Prop := topLoopsUptoRow.holds Tryz.pinned (OpenSpec.upto topLoopsSpec)

/-- 'taffrailtop.TopFull', WHERE WHAT IT READS IS OF BULK AT MOST 1048576: true; the input reads as it did. -/
def topFullUptoRow : OpenClaim := { program := "ytcpfmjlceoiofaagreatdoor", sum := "18386ae3b3c4d5b87a587d88ac7b6e49a477220f29346a2246fa094bf6a3f7d2", func := "taffrail/taffrailtop.TopFull", spec := "topFull", inPlace := ["internal/abi.NoEscape", "internal/bytealg.MakeNoZero", "internal/reflectlite.ValueOf", "(internal/reflectlite.Value).Type", "(internal/reflectlite.Value).IsNil", "internal/reflectlite.TypeOf", "(internal/reflectlite.Value).Elem", "(internal/reflectlite.Value).Set", "maps.clone"], unfollowed := true, recurses := true, named := ["errors.errorType", "taffrail/pipe.errWait", "taffrail/pipe.errBroken", "taffrail/sem.errRange", "taffrail/sem.errAgain", "taffrail/sem.errWait", "internal/strconv.uint64pow10", "math/bits.deBruijn32tab", "math/bits.deBruijn64tab"], plainKeys := false, apart := false, laid := [("errors.errorType", laid_errors_errorType), ("taffrail/pipe.errWait", laid_taffrail_pipe_errWait), ("taffrail/pipe.errBroken", laid_taffrail_pipe_errBroken), ("taffrail/sem.errRange", laid_taffrail_sem_errRange), ("taffrail/sem.errAgain", laid_taffrail_sem_errAgain), ("taffrail/sem.errWait", laid_taffrail_sem_errWait), ("internal/strconv.uint64pow10", laid_internal_strconv_uint64pow10), ("math/bits.deBruijn32tab", laid_math_bits_deBruijn32tab), ("math/bits.deBruijn64tab", laid_math_bits_deBruijn64tab)], narrowed := true }
def TopFullUptoSaid : Prop := topFullUptoRow.holds Tryz.pinned (OpenSpec.upto topFullSpec)

/-- 'taffrailtop.TopOrphans', WHERE WHAT IT READS IS OF BULK AT MOST 1048576: true; the input reads as it did. -/
def topOrphansUptoRow : OpenClaim := { program := "ytcpfmjlceoiofaagreatdoor", sum := "18386ae3b3c4d5b87a587d88ac7b6e49a477220f29346a2246fa094bf6a3f7d2", func := "taffrail/taffrailtop.TopOrphans", spec := "topOrphans", inPlace := ["internal/abi.NoEscape", "internal/bytealg.MakeNoZero", "internal/reflectlite.ValueOf", "(internal/reflectlite.Value).Type", "(internal/reflectlite.Value).IsNil", "internal/reflectlite.TypeOf", "(internal/reflectlite.Value).Elem", "(internal/reflectlite.Value).Set", "maps.clone"], unfollowed := true, recurses := true, named := ["errors.errorType", "taffrail/pipe.errWait", "taffrail/pipe.errBroken", "taffrail/sem.errRange", "taffrail/sem.errAgain", "taffrail/sem.errWait", "internal/strconv.uint64pow10", "math/bits.deBruijn32tab", "math/bits.deBruijn64tab"], plainKeys := false, apart := false, laid := [("errors.errorType", laid_errors_errorType), ("taffrail/pipe.errWait", laid_taffrail_pipe_errWait), ("taffrail/pipe.errBroken", laid_taffrail_pipe_errBroken), ("taffrail/sem.errRange", laid_taffrail_sem_errRange), ("taffrail/sem.errAgain", laid_taffrail_sem_errAgain), ("taffrail/sem.errWait", laid_taffrail_sem_errWait), ("internal/strconv.uint64pow10", laid_internal_strconv_uint64pow10), ("math/bits.deBruijn32tab", laid_math_bits_deBruijn32tab), ("math/bits.deBruijn64tab", laid_math_bits_deBruijn64tab)], narrowed := true }
def TopOrphansUptoSaid : Prop := topOrphansUptoRow.holds Tryz.pinned (OpenSpec.upto topOrphansSpec)

/-- 'taffrailtop.TopMail', WHERE WHAT IT READS IS OF BULK AT MOST 1048576: true; the input reads as it did. -/
def topMailUptoRow : OpenClaim := { program := "ytcpfmjlceoiofaagreatdoor", sum := "18386ae3b3c4d5b87a587d88ac7b6e49a477220f29346a2246fa094bf6a3f7d2", func := "taffrail/taffrailtop.TopMail", spec := "topMail", inPlace := ["internal/abi.NoEscape", "internal/bytealg.MakeNoZero", "internal/reflectlite.ValueOf", "(internal/reflectlite.Value).Type", "(internal/reflectlite.Value).IsNil", "internal/reflectlite.TypeOf", "(internal/reflectlite.Value).Elem", "(internal/reflectlite.Value).Set", "maps.clone"], unfollowed := true, recurses := true, named := ["errors.errorType", "taffrail/pipe.errWait", "taffrail/pipe.errBroken", "taffrail/sem.errRange", "taffrail/sem.errAgain", "taffrail/sem.errWait", "internal/strconv.uint64pow10", "math/bits.deBruijn32tab", "math/bits.deBruijn64tab"], plainKeys := false, apart := false, laid := [("errors.errorType", laid_errors_errorType), ("taffrail/pipe.errWait", laid_taffrail_pipe_errWait), ("taffrail/pipe.errBroken", laid_taffrail_pipe_errBroken), ("taffrail/sem.errRange", laid_taffrail_sem_errRange), ("taffrail/sem.errAgain", laid_taffrail_sem_errAgain), ("taffrail/sem.errWait", laid_taffrail_sem_errWait), ("internal/strconv.uint64pow10", laid_internal_strconv_uint64pow10), ("math/bits.deBruijn32tab", laid_math_bits_deBruijn32tab), ("math/bits.deBruijn64tab", laid_math_bits_deBruijn64tab)], narrowed := true }
def TopMailUptoSaid : Prop := topMailUptoRow.holds Tryz.pinned (OpenSpec.upto topMailSpec)

/-- 'taffrailtop.TopRefuses', WHERE WHAT IT READS IS OF BULK AT MOST 1048576: true; the input reads as it did. -/
def topRefusesUptoRow : OpenClaim := { program := "ytcpfmjlceoiofaagreatdoor", sum := "18386ae3b3c4d5b87a587d88ac7b6e49a477220f29346a2246fa094bf6a3f7d2", func := "taffrail/taffrailtop.TopRefuses", spec := "topRefuses", inPlace := ["internal/abi.NoEscape", "internal/bytealg.MakeNoZero", "internal/reflectlite.ValueOf", "(internal/reflectlite.Value).Type", "(internal/reflectlite.Value).IsNil", "internal/reflectlite.TypeOf", "(internal/reflectlite.Value).Elem", "(internal/reflectlite.Value).Set", "maps.clone"], unfollowed := true, recurses := true, named := ["errors.errorType", "taffrail/pipe.errWait", "taffrail/pipe.errBroken", "taffrail/sem.errRange", "taffrail/sem.errAgain", "taffrail/sem.errWait", "internal/strconv.uint64pow10", "math/bits.deBruijn32tab", "math/bits.deBruijn64tab"], plainKeys := false, apart := false, laid := [("errors.errorType", laid_errors_errorType), ("taffrail/pipe.errWait", laid_taffrail_pipe_errWait), ("taffrail/pipe.errBroken", laid_taffrail_pipe_errBroken), ("taffrail/sem.errRange", laid_taffrail_sem_errRange), ("taffrail/sem.errAgain", laid_taffrail_sem_errAgain), ("taffrail/sem.errWait", laid_taffrail_sem_errWait), ("internal/strconv.uint64pow10", laid_internal_strconv_uint64pow10), ("math/bits.deBruijn32tab", laid_math_bits_deBruijn32tab), ("math/bits.deBruijn64tab", laid_math_bits_deBruijn64tab)], narrowed := true }
def TopRefusesUptoSaid : Prop := topRefusesUptoRow.holds Tryz.pinned (OpenSpec.upto topRefusesSpec)

end Rows
end Go.Proofs.YtcpfmjlceoiofaaGreatDoor
