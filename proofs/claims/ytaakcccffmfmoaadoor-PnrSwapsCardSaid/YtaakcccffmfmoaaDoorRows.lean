/-
  NARROWER THAN 'FOR EVERY INPUT', by the rows' own cells (each row's printed sentence says how): CheckLacks: laid · CheckSound: laid · CheckMends: laid · PnrApplies: laid · PnrFolds: laid · PnrSame: laid · PnrSeats: laid · PnrKeeps: laid · PnrCancels: laid · PnrSwaps: laid · CheckGrows: laid.
  DERIVED. THE GIVEN ROWS OF THIS SEAT. 11 by the template 'for every input the law returns true; each argument reads behind the call as it read before'; 0 by the template 'total and deterministic' (their statements: YtaakcccffmfmoaaDoorTotals.lean).
  GIVEN WITH THE SEED: the statements are not yours to turn. If you find one false, say at which input.
  Laid BY PROGRAM, IN A SANDBOX (cutbox-rows.mjs): the forced cells as the released guide's own fill.sh prints them over the translation 80f924d5da938757… (all of the seat's roots in one cut). By AI agents, Wed Nov 11 2026. No macro, syntax, notation, axiom, sorry.
-/
import Derived.Test.YtaakcccffmfmoaaDoorChecked
import GoSem.Claim
import GoSem.ClaimJoined
import GoSem.ClaimMapViews
import Derived.JoinedTies
import Derived.KernelRfl
namespace Go.Proofs.YtaakcccffmfmoaaDoor
/- THE CELL 'sum', in the pinned program and in every row, IS THE sha256 OF THE DUMP (.gsa) THAT YtaakcccffmfmoaaDoorProg.lean LOADS. Nothing in Lean hashes anything: it is a label: what it is worth is what the hold of that sum in a sandbox is worth. -/
noncomputable def Tryd.pinned : Pinned := { name := "ytaakcccffmfmoaadoor", sum := "80f924d5da9387573089a81b97be628903d57d5523fb5a724c030e341d865626", checked := Tryd.checked }
namespace Rows
def none {H : Type} : Left H := { results := [], args := [] }

/- WHAT THE LISTED PACKAGE-LEVEL VARIABLES READ AS WHEN THE CALL BEGINS. Each datum BY PROGRAM (the guide's laid-datum.mjs) off the statement by which the dump's own 'gosem.cut.vars' lays the variable. In a bare row this is a premise. The card (YtaakcccffmfmoaaDoorCards.lean) ties it to the program's text. -/
def laid_math_bits_deBruijn32tab {H : Type} : DataW H := .agg [.lit (.int .u8 0), .lit (.int .u8 1), .lit (.int .u8 28), .lit (.int .u8 2), .lit (.int .u8 29), .lit (.int .u8 14), .lit (.int .u8 24), .lit (.int .u8 3), .lit (.int .u8 30), .lit (.int .u8 22), .lit (.int .u8 20), .lit (.int .u8 15), .lit (.int .u8 25), .lit (.int .u8 17), .lit (.int .u8 4), .lit (.int .u8 8), .lit (.int .u8 31), .lit (.int .u8 27), .lit (.int .u8 13), .lit (.int .u8 23), .lit (.int .u8 21), .lit (.int .u8 19), .lit (.int .u8 16), .lit (.int .u8 7), .lit (.int .u8 26), .lit (.int .u8 12), .lit (.int .u8 18), .lit (.int .u8 6), .lit (.int .u8 11), .lit (.int .u8 5), .lit (.int .u8 10), .lit (.int .u8 9)]
def laid_math_bits_deBruijn64tab {H : Type} : DataW H := .agg [.lit (.int .u8 0), .lit (.int .u8 1), .lit (.int .u8 56), .lit (.int .u8 2), .lit (.int .u8 57), .lit (.int .u8 49), .lit (.int .u8 28), .lit (.int .u8 3), .lit (.int .u8 61), .lit (.int .u8 58), .lit (.int .u8 42), .lit (.int .u8 50), .lit (.int .u8 38), .lit (.int .u8 29), .lit (.int .u8 17), .lit (.int .u8 4), .lit (.int .u8 62), .lit (.int .u8 47), .lit (.int .u8 59), .lit (.int .u8 36), .lit (.int .u8 45), .lit (.int .u8 43), .lit (.int .u8 51), .lit (.int .u8 22), .lit (.int .u8 53), .lit (.int .u8 39), .lit (.int .u8 33), .lit (.int .u8 30), .lit (.int .u8 24), .lit (.int .u8 18), .lit (.int .u8 12), .lit (.int .u8 5), .lit (.int .u8 63), .lit (.int .u8 55), .lit (.int .u8 48), .lit (.int .u8 27), .lit (.int .u8 60), .lit (.int .u8 41), .lit (.int .u8 37), .lit (.int .u8 16), .lit (.int .u8 46), .lit (.int .u8 35), .lit (.int .u8 44), .lit (.int .u8 21), .lit (.int .u8 52), .lit (.int .u8 32), .lit (.int .u8 23), .lit (.int .u8 11), .lit (.int .u8 54), .lit (.int .u8 26), .lit (.int .u8 40), .lit (.int .u8 15), .lit (.int .u8 34), .lit (.int .u8 20), .lit (.int .u8 31), .lit (.int .u8 10), .lit (.int .u8 25), .lit (.int .u8 14), .lit (.int .u8 19), .lit (.int .u8 9), .lit (.int .u8 13), .lit (.int .u8 8), .lit (.int .u8 7), .lit (.int .u8 6)]
def laid_internal_strconv_uint64pow10 {H : Type} : DataW H := .agg [.lit (.int .u64 1), .lit (.int .u64 10), .lit (.int .u64 100), .lit (.int .u64 1000), .lit (.int .u64 10000), .lit (.int .u64 100000), .lit (.int .u64 1000000), .lit (.int .u64 10000000), .lit (.int .u64 100000000), .lit (.int .u64 1000000000), .lit (.int .u64 10000000000), .lit (.int .u64 100000000000), .lit (.int .u64 1000000000000), .lit (.int .u64 10000000000000), .lit (.int .u64 100000000000000), .lit (.int .u64 1000000000000000), .lit (.int .u64 10000000000000000), .lit (.int .u64 100000000000000000), .lit (.int .u64 1000000000000000000), .lit (.int .u64 10000000000000000000)]

/-- 'jetwaylaw13.CheckLacks': WHATEVER THE INPUT: true; the input reads as it did. -/
def checkLacksSpec : ChangeSpec := { name := "checkLacks", fn := fun _ => fun
  | [d] => { results := [.lit (.bool true)], args := [d] }
  | _ => none }
def checkLacksRow : OpenClaim := { program := "ytaakcccffmfmoaadoor", sum := "80f924d5da9387573089a81b97be628903d57d5523fb5a724c030e341d865626", func := "jetway/jetwaylaw13.CheckLacks", spec := "checkLacks", named := ["internal/strconv.uint64pow10", "math/bits.deBruijn32tab", "math/bits.deBruijn64tab"], plainKeys := false, apart := false, laid := [("math/bits.deBruijn32tab", laid_math_bits_deBruijn32tab), ("math/bits.deBruijn64tab", laid_math_bits_deBruijn64tab), ("internal/strconv.uint64pow10", laid_internal_strconv_uint64pow10)] }
def CheckLacksSaid : Prop := checkLacksRow.holds Tryd.pinned (OpenSpec.ofChange checkLacksSpec)

/-- ITS FALSE NEIGHBOUR: 'it returns false'. Refute it at one input. -/
def checkLacksWrong : ChangeSpec := { name := "checkLacks", fn := fun _ => fun
  | [d] => { results := [.lit (.bool false)], args := [d] }
  | _ => none }
def CheckLacksWrongFalsely : Prop := checkLacksRow.holds Tryd.pinned (OpenSpec.ofChange checkLacksWrong)

/-- 'jetwaylaw13.CheckSound': WHATEVER THE INPUT: true; the input reads as it did. -/
def checkSoundSpec : ChangeSpec := { name := "checkSound", fn := fun _ => fun
  | [d] => { results := [.lit (.bool true)], args := [d] }
  | _ => none }
def checkSoundRow : OpenClaim := { program := "ytaakcccffmfmoaadoor", sum := "80f924d5da9387573089a81b97be628903d57d5523fb5a724c030e341d865626", func := "jetway/jetwaylaw13.CheckSound", spec := "checkSound", named := ["internal/strconv.uint64pow10", "math/bits.deBruijn32tab", "math/bits.deBruijn64tab"], plainKeys := false, apart := false, laid := [("math/bits.deBruijn32tab", laid_math_bits_deBruijn32tab), ("math/bits.deBruijn64tab", laid_math_bits_deBruijn64tab), ("internal/strconv.uint64pow10", laid_internal_strconv_uint64pow10)] }
def CheckSoundSaid : Prop := checkSoundRow.holds Tryd.pinned (OpenSpec.ofChange checkSoundSpec)

/-- ITS FALSE NEIGHBOUR: 'it returns false'. Refute it at one input. -/
def checkSoundWrong : ChangeSpec := { name := "checkSound", fn := fun _ => fun
  | [d] => { results := [.lit (.bool false)], args := [d] }
  | _ => none }
def CheckSoundWrongFalsely : Prop := checkSoundRow.holds Tryd.pinned (OpenSpec.ofChange checkSoundWrong)

/-- 'jetwaylaw13.CheckMends': WHATEVER THE INPUT: true; the input reads as it did. -/
def checkMendsSpec : ChangeSpec := { name := "checkMends", fn := fun _ => fun
  | [d1, d2] => { results := [.lit (.bool true)], args := [d1, d2] }
  | _ => none }
def checkMendsRow : OpenClaim := { program := "ytaakcccffmfmoaadoor", sum := "80f924d5da9387573089a81b97be628903d57d5523fb5a724c030e341d865626", func := "jetway/jetwaylaw13.CheckMends", spec := "checkMends", named := ["internal/strconv.uint64pow10", "math/bits.deBruijn32tab", "math/bits.deBruijn64tab"], plainKeys := false, apart := false, laid := [("math/bits.deBruijn32tab", laid_math_bits_deBruijn32tab), ("math/bits.deBruijn64tab", laid_math_bits_deBruijn64tab), ("internal/strconv.uint64pow10", laid_internal_strconv_uint64pow10)] }
def CheckMendsSaid : Prop := checkMendsRow.holds Tryd.pinned (OpenSpec.ofChange checkMendsSpec)

/-- ITS FALSE NEIGHBOUR: 'it returns false'. Refute it at one input. -/
def checkMendsWrong : ChangeSpec := { name := "checkMends", fn := fun _ => fun
  | [d1, d2] => { results := [.lit (.bool false)], args := [d1, d2] }
  | _ => none }
def CheckMendsWrongFalsely : Prop := checkMendsRow.holds Tryd.pinned (OpenSpec.ofChange checkMendsWrong)

/-- 'jetwaylaw12.PnrApplies': WHATEVER THE INPUT: true; the input reads as it did. -/
def pnrAppliesSpec : ChangeSpec := { name := "pnrApplies", fn := fun _ => fun
  | [d1, d2] => { results := [.lit (.bool true)], args := [d1, d2] }
  | _ => none }
def pnrAppliesRow : OpenClaim := { program := "ytaakcccffmfmoaadoor", sum := "80f924d5da9387573089a81b97be628903d57d5523fb5a724c030e341d865626", func := "jetway/jetwaylaw12.PnrApplies", spec := "pnrApplies", inPlace := ["slices.overlaps[jetway/api.Place]"], unfollowed := true, recurses := true, named := ["internal/strconv.uint64pow10", "math/bits.deBruijn32tab", "math/bits.deBruijn64tab"], plainKeys := false, apart := false, laid := [("math/bits.deBruijn32tab", laid_math_bits_deBruijn32tab), ("math/bits.deBruijn64tab", laid_math_bits_deBruijn64tab), ("internal/strconv.uint64pow10", laid_internal_strconv_uint64pow10)] }
def PnrAppliesSaid : Prop := pnrAppliesRow.holds Tryd.pinned (OpenSpec.ofChange pnrAppliesSpec)

/-- ITS FALSE NEIGHBOUR: 'it returns false'. Refute it at one input. -/
def pnrAppliesWrong : ChangeSpec := { name := "pnrApplies", fn := fun _ => fun
  | [d1, d2] => { results := [.lit (.bool false)], args := [d1, d2] }
  | _ => none }
def PnrAppliesWrongFalsely : Prop := pnrAppliesRow.holds Tryd.pinned (OpenSpec.ofChange pnrAppliesWrong)

/-- 'jetwaylaw12.PnrFolds': WHATEVER THE INPUT: true; the input reads as it did. -/
def pnrFoldsSpec : ChangeSpec := { name := "pnrFolds", fn := fun _ => fun
  | [d1, d2] => { results := [.lit (.bool true)], args := [d1, d2] }
  | _ => none }
def pnrFoldsRow : OpenClaim := { program := "ytaakcccffmfmoaadoor", sum := "80f924d5da9387573089a81b97be628903d57d5523fb5a724c030e341d865626", func := "jetway/jetwaylaw12.PnrFolds", spec := "pnrFolds", inPlace := ["slices.overlaps[jetway/api.Place]"], unfollowed := true, recurses := true, named := ["internal/strconv.uint64pow10", "math/bits.deBruijn32tab", "math/bits.deBruijn64tab"], plainKeys := false, apart := false, laid := [("math/bits.deBruijn32tab", laid_math_bits_deBruijn32tab), ("math/bits.deBruijn64tab", laid_math_bits_deBruijn64tab), ("internal/strconv.uint64pow10", laid_internal_strconv_uint64pow10)] }
def PnrFoldsSaid : Prop := pnrFoldsRow.holds Tryd.pinned (OpenSpec.ofChange pnrFoldsSpec)

/-- ITS FALSE NEIGHBOUR: 'it returns false'. Refute it at one input. -/
def pnrFoldsWrong : ChangeSpec := { name := "pnrFolds", fn := fun _ => fun
  | [d1, d2] => { results := [.lit (.bool false)], args := [d1, d2] }
  | _ => none }
def PnrFoldsWrongFalsely : Prop := pnrFoldsRow.holds Tryd.pinned (OpenSpec.ofChange pnrFoldsWrong)

/-- 'jetwaylaw12.PnrSame': WHATEVER THE INPUT: true; the input reads as it did. -/
def pnrSameSpec : ChangeSpec := { name := "pnrSame", fn := fun _ => fun
  | [d1, d2, d3] => { results := [.lit (.bool true)], args := [d1, d2, d3] }
  | _ => none }
def pnrSameRow : OpenClaim := { program := "ytaakcccffmfmoaadoor", sum := "80f924d5da9387573089a81b97be628903d57d5523fb5a724c030e341d865626", func := "jetway/jetwaylaw12.PnrSame", spec := "pnrSame", inPlace := ["slices.overlaps[jetway/api.Place]"], unfollowed := true, recurses := true, named := ["internal/strconv.uint64pow10", "math/bits.deBruijn32tab", "math/bits.deBruijn64tab"], plainKeys := false, apart := false, laid := [("math/bits.deBruijn32tab", laid_math_bits_deBruijn32tab), ("math/bits.deBruijn64tab", laid_math_bits_deBruijn64tab), ("internal/strconv.uint64pow10", laid_internal_strconv_uint64pow10)] }
def PnrSameSaid : Prop := pnrSameRow.holds Tryd.pinned (OpenSpec.ofChange pnrSameSpec)

/-- ITS FALSE NEIGHBOUR: 'it returns false'. Refute it at one input. -/
def pnrSameWrong : ChangeSpec := { name := "pnrSame", fn := fun _ => fun
  | [d1, d2, d3] => { results := [.lit (.bool false)], args := [d1, d2, d3] }
  | _ => none }
def PnrSameWrongFalsely : Prop := pnrSameRow.holds Tryd.pinned (OpenSpec.ofChange pnrSameWrong)

/-- 'jetwaylaw12.PnrSeats': WHATEVER THE INPUT: true; the input reads as it did. -/
def pnrSeatsSpec : ChangeSpec := { name := "pnrSeats", fn := fun _ => fun
  | [d] => { results := [.lit (.bool true)], args := [d] }
  | _ => none }
def pnrSeatsRow : OpenClaim := { program := "ytaakcccffmfmoaadoor", sum := "80f924d5da9387573089a81b97be628903d57d5523fb5a724c030e341d865626", func := "jetway/jetwaylaw12.PnrSeats", spec := "pnrSeats", inPlace := ["slices.overlaps[jetway/api.Place]"], unfollowed := true, recurses := true, named := ["internal/strconv.uint64pow10", "math/bits.deBruijn32tab", "math/bits.deBruijn64tab"], plainKeys := false, apart := false, laid := [("math/bits.deBruijn32tab", laid_math_bits_deBruijn32tab), ("math/bits.deBruijn64tab", laid_math_bits_deBruijn64tab), ("internal/strconv.uint64pow10", laid_internal_strconv_uint64pow10)] }
def PnrSeatsSaid : Prop := pnrSeatsRow.holds Tryd.pinned (OpenSpec.ofChange pnrSeatsSpec)

/-- ITS FALSE NEIGHBOUR: 'it returns false'. Refute it at one input. -/
def pnrSeatsWrong : ChangeSpec := { name := "pnrSeats", fn := fun _ => fun
  | [d] => { results := [.lit (.bool false)], args := [d] }
  | _ => none }
def PnrSeatsWrongFalsely : Prop := pnrSeatsRow.holds Tryd.pinned (OpenSpec.ofChange pnrSeatsWrong)

/-- 'jetwaylaw12.PnrKeeps': WHATEVER THE INPUT: true; the input reads as it did. -/
def pnrKeepsSpec : ChangeSpec := { name := "pnrKeeps", fn := fun _ => fun
  | [d1, d2] => { results := [.lit (.bool true)], args := [d1, d2] }
  | _ => none }
def pnrKeepsRow : OpenClaim := { program := "ytaakcccffmfmoaadoor", sum := "80f924d5da9387573089a81b97be628903d57d5523fb5a724c030e341d865626", func := "jetway/jetwaylaw12.PnrKeeps", spec := "pnrKeeps", inPlace := ["slices.overlaps[jetway/api.Place]"], unfollowed := true, recurses := true, named := ["internal/strconv.uint64pow10", "math/bits.deBruijn32tab", "math/bits.deBruijn64tab"], plainKeys := false, apart := false, laid := [("math/bits.deBruijn32tab", laid_math_bits_deBruijn32tab), ("math/bits.deBruijn64tab", laid_math_bits_deBruijn64tab), ("internal/strconv.uint64pow10", laid_internal_strconv_uint64pow10)] }
def PnrKeepsSaid : Prop := pnrKeepsRow.holds Tryd.pinned (OpenSpec.ofChange pnrKeepsSpec)

/-- ITS FALSE NEIGHBOUR: 'it returns false'. Refute it at one input. -/
def pnrKeepsWrong : ChangeSpec := { name := "pnrKeeps", fn := fun _ => fun
  | [d1, d2] => { results := [.lit (.bool false)], args := [d1, d2] }
  | _ => none }
def PnrKeepsWrongFalsely : Prop := pnrKeepsRow.holds Tryd.pinned (OpenSpec.ofChange pnrKeepsWrong)

/-- 'jetwaylaw12.PnrCancels': WHATEVER THE INPUT: true; the input reads as it did. -/
def pnrCancelsSpec : ChangeSpec := { name := "pnrCancels", fn := fun _ => fun
  | [d1, d2] => { results := [.lit (.bool true)], args := [d1, d2] }
  | _ => none }
def pnrCancelsRow : OpenClaim := { program := "ytaakcccffmfmoaadoor", sum := "80f924d5da9387573089a81b97be628903d57d5523fb5a724c030e341d865626", func := "jetway/jetwaylaw12.PnrCancels", spec := "pnrCancels", inPlace := ["slices.overlaps[jetway/api.Place]"], unfollowed := true, recurses := true, named := ["internal/strconv.uint64pow10", "math/bits.deBruijn32tab", "math/bits.deBruijn64tab"], plainKeys := false, apart := false, laid := [("math/bits.deBruijn32tab", laid_math_bits_deBruijn32tab), ("math/bits.deBruijn64tab", laid_math_bits_deBruijn64tab), ("internal/strconv.uint64pow10", laid_internal_strconv_uint64pow10)] }
def PnrCancelsSaid : Prop := pnrCancelsRow.holds Tryd.pinned (OpenSpec.ofChange pnrCancelsSpec)

/-- ITS FALSE NEIGHBOUR: 'it returns false'. Refute it at one input. -/
def pnrCancelsWrong : ChangeSpec := { name := "pnrCancels", fn := fun _ => fun
  | [d1, d2] => { results := [.lit (.bool false)], args := [d1, d2] }
  | _ => none }
def PnrCancelsWrongFalsely : Prop := pnrCancelsRow.holds Tryd.pinned (OpenSpec.ofChange pnrCancelsWrong)

/-- 'jetwaylaw12.PnrSwaps': WHATEVER THE INPUT: true; the input reads as it did. -/
def pnrSwapsSpec : ChangeSpec := { name := "pnrSwaps", fn := fun _ => fun
  | [d1, d2, d3] => { results := [.lit (.bool true)], args := [d1, d2, d3] }
  | _ => none }
def pnrSwapsRow : OpenClaim := { program := "ytaakcccffmfmoaadoor", sum := "80f924d5da9387573089a81b97be628903d57d5523fb5a724c030e341d865626", func := "jetway/jetwaylaw12.PnrSwaps", spec := "pnrSwaps", inPlace := ["slices.overlaps[jetway/api.Place]"], unfollowed := true, recurses := true, named := ["internal/strconv.uint64pow10", "math/bits.deBruijn32tab", "math/bits.deBruijn64tab"], plainKeys := false, apart := false, laid := [("math/bits.deBruijn32tab", laid_math_bits_deBruijn32tab), ("math/bits.deBruijn64tab", laid_math_bits_deBruijn64tab), ("internal/strconv.uint64pow10", laid_internal_strconv_uint64pow10)] }
def PnrSwapsSaid : Prop := pnrSwapsRow.holds Tryd.pinned (OpenSpec.ofChange pnrSwapsSpec)

/-- ITS FALSE NEIGHBOUR: 'it returns false'. Refute it at one input. -/
def pnrSwapsWrong : ChangeSpec := { name := "pnrSwaps", fn := fun _ => fun
  | [d1, d2, d3] => { results := [.lit (.bool false)], args := [d1, d2, d3] }
  | _ => none }
def PnrSwapsWrongFalsely : Prop := pnrSwapsRow.holds Tryd.pinned (OpenSpec.ofChange pnrSwapsWrong)

/-- 'jetwaylaw13.CheckGrows': WHATEVER THE INPUT: true; the input reads as it did. -/
def checkGrowsSpec : ChangeSpec := { name := "checkGrows", fn := fun _ => fun
  | [d1, d2] => { results := [.lit (.bool true)], args := [d1, d2] }
  | _ => none }
def checkGrowsRow : OpenClaim := { program := "ytaakcccffmfmoaadoor", sum := "80f924d5da9387573089a81b97be628903d57d5523fb5a724c030e341d865626", func := "jetway/jetwaylaw13.CheckGrows", spec := "checkGrows", inPlace := ["slices.overlaps[jetway/api.Place]"], unfollowed := true, recurses := true, named := ["internal/strconv.uint64pow10", "math/bits.deBruijn32tab", "math/bits.deBruijn64tab"], plainKeys := false, apart := false, laid := [("math/bits.deBruijn32tab", laid_math_bits_deBruijn32tab), ("math/bits.deBruijn64tab", laid_math_bits_deBruijn64tab), ("internal/strconv.uint64pow10", laid_internal_strconv_uint64pow10)] }
def CheckGrowsSaid : Prop := checkGrowsRow.holds Tryd.pinned (OpenSpec.ofChange checkGrowsSpec)

/-- ITS FALSE NEIGHBOUR: 'it returns false'. Refute it at one input. -/
def checkGrowsWrong : ChangeSpec := { name := "checkGrows", fn := fun _ => fun
  | [d1, d2] => { results := [.lit (.bool false)], args := [d1, d2] }
  | _ => none }
def CheckGrowsWrongFalsely : Prop := checkGrowsRow.holds Tryd.pinned (OpenSpec.ofChange checkGrowsWrong)

/- THE SECOND FORM. 'bulk': how many values and letters a reading holds, each counted each time it is reached (what is shared counts as often as it is met; a slice's spare places count too). A statement '..UptoSaid' is the law's where the arguments, and the package variables that the reading takes, are together of bulk at most 1048576: NARROWER than '..Said'. Prove '..Said' where nothing that the law and all that it calls make is longer than what came in: it says more and counts as full. Else prove '..UptoSaid'. A law counts once. -/
mutual
def uptoBulk {H : Type} : DataW H → Nat
  | .lit (.string bytes) => bytes.length + 1
  | .lit _ => 1
  | .nil => 1
  | .ptr d => uptoBulk d + 1
  | .slice elems spare => uptoBulkAll elems + uptoBulkAll spare + 1
  | .agg parts => uptoBulkAll parts + 1
  | .iface _ d => uptoBulk d + 1
  | .map entries => uptoBulkEntries entries + 1
  | .held _ => 1
def uptoBulkAll {H : Type} : List (DataW H) → Nat
  | [] => 0
  | d :: r => uptoBulk d + uptoBulkAll r
def uptoBulkEntries {H : Type} : List (Lit × DataW H) → Nat
  | [] => 0
  | x :: r => uptoBulkEntry x + uptoBulkEntries r
def uptoBulkEntry {H : Type} : Lit × DataW H → Nat
  | (.string bytes, d) => bytes.length + uptoBulk d + 1
  | (_, d) => uptoBulk d + 1
 end
def uptoSmall : (H : Type) → List (DataW H) → Bool := fun _ ds => decide (uptoBulkAll ds ≤ 1048576)
def OpenSpec.upto (s : _root_.Go.ChangeSpec) : _root_.Go.OpenSpec := { _root_.Go.OpenSpec.ofChange s with cond := some uptoSmall }

/-- 'jetwaylaw13.CheckLacks', WHERE WHAT IT READS IS OF BULK AT MOST 1048576: true; the input reads as it did. -/
def checkLacksUptoRow : OpenClaim := { program := "ytaakcccffmfmoaadoor", sum := "80f924d5da9387573089a81b97be628903d57d5523fb5a724c030e341d865626", func := "jetway/jetwaylaw13.CheckLacks", spec := "checkLacks", named := ["internal/strconv.uint64pow10", "math/bits.deBruijn32tab", "math/bits.deBruijn64tab"], plainKeys := false, apart := false, laid := [("math/bits.deBruijn32tab", laid_math_bits_deBruijn32tab), ("math/bits.deBruijn64tab", laid_math_bits_deBruijn64tab), ("internal/strconv.uint64pow10", laid_internal_strconv_uint64pow10)], narrowed := true }
def CheckLacksUptoSaid : Prop := checkLacksUptoRow.holds Tryd.pinned (OpenSpec.upto checkLacksSpec)

/-- 'jetwaylaw13.CheckSound', WHERE WHAT IT READS IS OF BULK AT MOST 1048576: true; the input reads as it did. -/
def checkSoundUptoRow : OpenClaim := { program := "ytaakcccffmfmoaadoor", sum := "80f924d5da9387573089a81b97be628903d57d5523fb5a724c030e341d865626", func := "jetway/jetwaylaw13.CheckSound", spec := "checkSound", named := ["internal/strconv.uint64pow10", "math/bits.deBruijn32tab", "math/bits.deBruijn64tab"], plainKeys := false, apart := false, laid := [("math/bits.deBruijn32tab", laid_math_bits_deBruijn32tab), ("math/bits.deBruijn64tab", laid_math_bits_deBruijn64tab), ("internal/strconv.uint64pow10", laid_internal_strconv_uint64pow10)], narrowed := true }
def CheckSoundUptoSaid : Prop := checkSoundUptoRow.holds Tryd.pinned (OpenSpec.upto checkSoundSpec)

/-- 'jetwaylaw13.CheckMends', WHERE WHAT IT READS IS OF BULK AT MOST 1048576: true; the input reads as it did. -/
def checkMendsUptoRow : OpenClaim := { program := "ytaakcccffmfmoaadoor", sum := "80f924d5da9387573089a81b97be628903d57d5523fb5a724c030e341d865626", func := "jetway/jetwaylaw13.CheckMends", spec := "checkMends", named := ["internal/strconv.uint64pow10", "math/bits.deBruijn32tab", "math/bits.deBruijn64tab"], plainKeys := false, apart := false, laid := [("math/bits.deBruijn32tab", laid_math_bits_deBruijn32tab), ("math/bits.deBruijn64tab", laid_math_bits_deBruijn64tab), ("internal/strconv.uint64pow10", laid_internal_strconv_uint64pow10)], narrowed := true }
def CheckMendsUptoSaid : Prop := checkMendsUptoRow.holds Tryd.pinned (OpenSpec.upto checkMendsSpec)

/-- 'jetwaylaw12.PnrApplies', WHERE WHAT IT READS IS OF BULK AT MOST 1048576: true; the input reads as it did. -/
def pnrAppliesUptoRow : OpenClaim := { program := "ytaakcccffmfmoaadoor", sum := "80f924d5da9387573089a81b97be628903d57d5523fb5a724c030e341d865626", func := "jetway/jetwaylaw12.PnrApplies", spec := "pnrApplies", inPlace := ["slices.overlaps[jetway/api.Place]"], unfollowed := true, recurses := true, named := ["internal/strconv.uint64pow10", "math/bits.deBruijn32tab", "math/bits.deBruijn64tab"], plainKeys := false, apart := false, laid := [("math/bits.deBruijn32tab", laid_math_bits_deBruijn32tab), ("math/bits.deBruijn64tab", laid_math_bits_deBruijn64tab), ("internal/strconv.uint64pow10", laid_internal_strconv_uint64pow10)], narrowed := true }
def PnrAppliesUptoSaid : Prop := pnrAppliesUptoRow.holds Tryd.pinned (OpenSpec.upto pnrAppliesSpec)

/-- 'jetwaylaw12.PnrFolds', WHERE WHAT IT READS IS OF BULK AT MOST 1048576: true; the input reads as it did. -/
def pnrFoldsUptoRow : OpenClaim := { program := "ytaakcccffmfmoaadoor", sum := "80f924d5da9387573089a81b97be628903d57d5523fb5a724c030e341d865626", func := "jetway/jetwaylaw12.PnrFolds", spec := "pnrFolds", inPlace := ["slices.overlaps[jetway/api.Place]"], unfollowed := true, recurses := true, named := ["internal/strconv.uint64pow10", "math/bits.deBruijn32tab", "math/bits.deBruijn64tab"], plainKeys := false, apart := false, laid := [("math/bits.deBruijn32tab", laid_math_bits_deBruijn32tab), ("math/bits.deBruijn64tab", laid_math_bits_deBruijn64tab), ("internal/strconv.uint64pow10", laid_internal_strconv_uint64pow10)], narrowed := true }
def PnrFoldsUptoSaid : Prop := pnrFoldsUptoRow.holds Tryd.pinned (OpenSpec.upto pnrFoldsSpec)

/-- 'jetwaylaw12.PnrSame', WHERE WHAT IT READS IS OF BULK AT MOST 1048576: true; the input reads as it did. -/
def pnrSameUptoRow : OpenClaim := { program := "ytaakcccffmfmoaadoor", sum := "80f924d5da9387573089a81b97be628903d57d5523fb5a724c030e341d865626", func := "jetway/jetwaylaw12.PnrSame", spec := "pnrSame", inPlace := ["slices.overlaps[jetway/api.Place]"], unfollowed := true, recurses := true, named := ["internal/strconv.uint64pow10", "math/bits.deBruijn32tab", "math/bits.deBruijn64tab"], plainKeys := false, apart := false, laid := [("math/bits.deBruijn32tab", laid_math_bits_deBruijn32tab), ("math/bits.deBruijn64tab", laid_math_bits_deBruijn64tab), ("internal/strconv.uint64pow10", laid_internal_strconv_uint64pow10)], narrowed := true }
def PnrSameUptoSaid : Prop := pnrSameUptoRow.holds Tryd.pinned (OpenSpec.upto pnrSameSpec)

/-- 'jetwaylaw12.PnrSeats', WHERE WHAT IT READS IS OF BULK AT MOST 1048576: true; the input reads as it did. -/
def pnrSeatsUptoRow : OpenClaim := { program := "ytaakcccffmfmoaadoor", sum := "80f924d5da9387573089a81b97be628903d57d5523fb5a724c030e341d865626", func := "jetway/jetwaylaw12.PnrSeats", spec := "pnrSeats", inPlace := ["slices.overlaps[jetway/api.Place]"], unfollowed := true, recurses := true, named := ["internal/strconv.uint64pow10", "math/bits.deBruijn32tab", "math/bits.deBruijn64tab"], plainKeys := false, apart := false, laid := [("math/bits.deBruijn32tab", laid_math_bits_deBruijn32tab), ("math/bits.deBruijn64tab", laid_math_bits_deBruijn64tab), ("internal/strconv.uint64pow10", laid_internal_strconv_uint64pow10)], narrowed := true }
def PnrSeatsUptoSaid : Prop := pnrSeatsUptoRow.holds Tryd.pinned (OpenSpec.upto pnrSeatsSpec)

/-- 'jetwaylaw12.PnrKeeps', WHERE WHAT IT READS IS OF BULK AT MOST 1048576: true; the input reads as it did. -/
def pnrKeepsUptoRow : OpenClaim := { program := "ytaakcccffmfmoaadoor", sum := "80f924d5da9387573089a81b97be628903d57d5523fb5a724c030e341d865626", func := "jetway/jetwaylaw12.PnrKeeps", spec := "pnrKeeps", inPlace := ["slices.overlaps[jetway/api.Place]"], unfollowed := true, recurses := true, named := ["internal/strconv.uint64pow10", "math/bits.deBruijn32tab", "math/bits.deBruijn64tab"], plainKeys := false, apart := false, laid := [("math/bits.deBruijn32tab", laid_math_bits_deBruijn32tab), ("math/bits.deBruijn64tab", laid_math_bits_deBruijn64tab), ("internal/strconv.uint64pow10", laid_internal_strconv_uint64pow10)], narrowed := true }
def PnrKeepsUptoSaid : Prop := pnrKeepsUptoRow.holds Tryd.pinned (OpenSpec.upto pnrKeepsSpec)

/-- 'jetwaylaw12.PnrCancels', WHERE WHAT IT READS IS OF BULK AT MOST 1048576: true; the input reads as it did. -/
def pnrCancelsUptoRow : OpenClaim := { program := "ytaakcccffmfmoaadoor", sum := "80f924d5da9387573089a81b97be628903d57d5523fb5a724c030e341d865626", func := "jetway/jetwaylaw12.PnrCancels", spec := "pnrCancels", inPlace := ["slices.overlaps[jetway/api.Place]"], unfollowed := true, recurses := true, named := ["internal/strconv.uint64pow10", "math/bits.deBruijn32tab", "math/bits.deBruijn64tab"], plainKeys := false, apart := false, laid := [("math/bits.deBruijn32tab", laid_math_bits_deBruijn32tab), ("math/bits.deBruijn64tab", laid_math_bits_deBruijn64tab), ("internal/strconv.uint64pow10", laid_internal_strconv_uint64pow10)], narrowed := true }
def PnrCancelsUptoSaid : Prop := pnrCancelsUptoRow.holds Tryd.pinned (OpenSpec.upto pnrCancelsSpec)

/-- 'jetwaylaw12.PnrSwaps', WHERE WHAT IT READS IS OF BULK AT MOST 1048576: true; the input reads as it did. -/
def pnrSwapsUptoRow : OpenClaim := { program := "ytaakcccffmfmoaadoor", sum := "80f924d5da9387573089a81b97be628903d57d5523fb5a724c030e341d865626", func := "jetway/jetwaylaw12.PnrSwaps", spec := "pnrSwaps", inPlace := ["slices.overlaps[jetway/api.Place]"], unfollowed := true, recurses := true, named := ["internal/strconv.uint64pow10", "math/bits.deBruijn32tab", "math/bits.deBruijn64tab"], plainKeys := false, apart := false, laid := [("math/bits.deBruijn32tab", laid_math_bits_deBruijn32tab), ("math/bits.deBruijn64tab", laid_math_bits_deBruijn64tab), ("internal/strconv.uint64pow10", laid_internal_strconv_uint64pow10)], narrowed := true }
def PnrSwapsUptoSaid : Prop := pnrSwapsUptoRow.holds Tryd.pinned (OpenSpec.upto pnrSwapsSpec)

/-- 'jetwaylaw13.CheckGrows', WHERE WHAT IT READS IS OF BULK AT MOST 1048576: true; the input reads as it did. -/
def checkGrowsUptoRow : OpenClaim := { program := "ytaakcccffmfmoaadoor", sum := "80f924d5da9387573089a81b97be628903d57d5523fb5a724c030e341d865626", func := "jetway/jetwaylaw13.CheckGrows", spec := "checkGrows", inPlace := ["slices.overlaps[jetway/api.Place]"], unfollowed := true, recurses := true, named := ["internal/strconv.uint64pow10", "math/bits.deBruijn32tab", "math/bits.deBruijn64tab"], plainKeys := false, apart := false, laid := [("math/bits.deBruijn32tab", laid_math_bits_deBruijn32tab), ("math/bits.deBruijn64tab", laid_math_bits_deBruijn64tab), ("internal/strconv.uint64pow10", laid_internal_strconv_uint64pow10)], narrowed := true }
def CheckGrowsUptoSaid : Prop := checkGrowsUptoRow.holds Tryd.pinned (OpenSpec.upto checkGrowsSpec)

end Rows
end Go.Proofs.YtaakcccffmfmoaaDoor
