/-
  NARROWER THAN 'FOR EVERY INPUT', by the rows' own cells (each row's printed sentence says how): FlightChecks: laid · FlightWays: laid · FlightLinks: laid · FlightOrder: laid · FlightTables: laid · FlightDays: laid.
  DERIVED. THE GIVEN ROWS OF THIS SEAT. 6 by the template 'for every input the law returns true; each argument reads behind the call as it read before'; 0 by the template 'total and deterministic' (their statements: YtodholjbefifeaaDoorTotals.lean).
  GIVEN WITH THE SEED: the statements are not yours to turn. If you find one false, say at which input.
  Laid BY PROGRAM, IN A SANDBOX (cutbox-rows.mjs): the forced cells as the released guide's own fill.sh prints them over the translation e2743dbe1bb0f467… (all of the seat's roots in one cut). By AI agents, Wed Nov 11 2026. No macro, syntax, notation, axiom, sorry.
-/
import Derived.Test.YtodholjbefifeaaDoorChecked
import GoSem.Claim
import GoSem.ClaimJoined
import GoSem.ClaimMapViews
import Derived.JoinedTies
import Derived.KernelRfl
namespace Go.Proofs.YtodholjbefifeaaDoor
/- THE CELL 'sum', in the pinned program and in every row, IS THE sha256 OF THE DUMP (.gsa) THAT YtodholjbefifeaaDoorProg.lean LOADS. Nothing in Lean hashes anything: it is a label: what it is worth is what the hold of that sum in a sandbox is worth. -/
noncomputable def Tryd.pinned : Pinned := { name := "ytodholjbefifeaadoor", sum := "e2743dbe1bb0f467ebd95c257a7f1a91dbe5693212cc6e8b33085f1da650b812", checked := Tryd.checked }
namespace Rows
def none {H : Type} : Left H := { results := [], args := [] }

/- WHAT THE LISTED PACKAGE-LEVEL VARIABLES READ AS WHEN THE CALL BEGINS. Each datum BY PROGRAM (the guide's laid-datum.mjs) off the statement by which the dump's own 'gosem.cut.vars' lays the variable. In a bare row this is a premise. The card (YtodholjbefifeaaDoorCards.lean) ties it to the program's text. -/
def laid_math_bits_deBruijn32tab {H : Type} : DataW H := .agg [.lit (.int .u8 0), .lit (.int .u8 1), .lit (.int .u8 28), .lit (.int .u8 2), .lit (.int .u8 29), .lit (.int .u8 14), .lit (.int .u8 24), .lit (.int .u8 3), .lit (.int .u8 30), .lit (.int .u8 22), .lit (.int .u8 20), .lit (.int .u8 15), .lit (.int .u8 25), .lit (.int .u8 17), .lit (.int .u8 4), .lit (.int .u8 8), .lit (.int .u8 31), .lit (.int .u8 27), .lit (.int .u8 13), .lit (.int .u8 23), .lit (.int .u8 21), .lit (.int .u8 19), .lit (.int .u8 16), .lit (.int .u8 7), .lit (.int .u8 26), .lit (.int .u8 12), .lit (.int .u8 18), .lit (.int .u8 6), .lit (.int .u8 11), .lit (.int .u8 5), .lit (.int .u8 10), .lit (.int .u8 9)]
def laid_math_bits_deBruijn64tab {H : Type} : DataW H := .agg [.lit (.int .u8 0), .lit (.int .u8 1), .lit (.int .u8 56), .lit (.int .u8 2), .lit (.int .u8 57), .lit (.int .u8 49), .lit (.int .u8 28), .lit (.int .u8 3), .lit (.int .u8 61), .lit (.int .u8 58), .lit (.int .u8 42), .lit (.int .u8 50), .lit (.int .u8 38), .lit (.int .u8 29), .lit (.int .u8 17), .lit (.int .u8 4), .lit (.int .u8 62), .lit (.int .u8 47), .lit (.int .u8 59), .lit (.int .u8 36), .lit (.int .u8 45), .lit (.int .u8 43), .lit (.int .u8 51), .lit (.int .u8 22), .lit (.int .u8 53), .lit (.int .u8 39), .lit (.int .u8 33), .lit (.int .u8 30), .lit (.int .u8 24), .lit (.int .u8 18), .lit (.int .u8 12), .lit (.int .u8 5), .lit (.int .u8 63), .lit (.int .u8 55), .lit (.int .u8 48), .lit (.int .u8 27), .lit (.int .u8 60), .lit (.int .u8 41), .lit (.int .u8 37), .lit (.int .u8 16), .lit (.int .u8 46), .lit (.int .u8 35), .lit (.int .u8 44), .lit (.int .u8 21), .lit (.int .u8 52), .lit (.int .u8 32), .lit (.int .u8 23), .lit (.int .u8 11), .lit (.int .u8 54), .lit (.int .u8 26), .lit (.int .u8 40), .lit (.int .u8 15), .lit (.int .u8 34), .lit (.int .u8 20), .lit (.int .u8 31), .lit (.int .u8 10), .lit (.int .u8 25), .lit (.int .u8 14), .lit (.int .u8 19), .lit (.int .u8 9), .lit (.int .u8 13), .lit (.int .u8 8), .lit (.int .u8 7), .lit (.int .u8 6)]
def laid_internal_strconv_uint64pow10 {H : Type} : DataW H := .agg [.lit (.int .u64 1), .lit (.int .u64 10), .lit (.int .u64 100), .lit (.int .u64 1000), .lit (.int .u64 10000), .lit (.int .u64 100000), .lit (.int .u64 1000000), .lit (.int .u64 10000000), .lit (.int .u64 100000000), .lit (.int .u64 1000000000), .lit (.int .u64 10000000000), .lit (.int .u64 100000000000), .lit (.int .u64 1000000000000), .lit (.int .u64 10000000000000), .lit (.int .u64 100000000000000), .lit (.int .u64 1000000000000000), .lit (.int .u64 10000000000000000), .lit (.int .u64 100000000000000000), .lit (.int .u64 1000000000000000000), .lit (.int .u64 10000000000000000000)]

/-- 'jetwaylaw08.FlightChecks': WHATEVER THE INPUT: true; the input reads as it did. -/
def flightChecksSpec : ChangeSpec := { name := "flightChecks", fn := fun _ => fun
  | [d] => { results := [.lit (.bool true)], args := [d] }
  | _ => none }
def flightChecksRow : OpenClaim := { program := "ytodholjbefifeaadoor", sum := "e2743dbe1bb0f467ebd95c257a7f1a91dbe5693212cc6e8b33085f1da650b812", func := "jetway/jetwaylaw08.FlightChecks", spec := "flightChecks", unfollowed := true, recurses := true, named := ["internal/strconv.uint64pow10", "math/bits.deBruijn32tab", "math/bits.deBruijn64tab"], plainKeys := false, apart := false, laid := [("math/bits.deBruijn32tab", laid_math_bits_deBruijn32tab), ("math/bits.deBruijn64tab", laid_math_bits_deBruijn64tab), ("internal/strconv.uint64pow10", laid_internal_strconv_uint64pow10)] }
def FlightChecksSaid : Prop := flightChecksRow.holds Tryd.pinned (OpenSpec.ofChange flightChecksSpec)

/-- ITS FALSE NEIGHBOUR: 'it returns false'. Refute it at one input. -/
def flightChecksWrong : ChangeSpec := { name := "flightChecks", fn := fun _ => fun
  | [d] => { results := [.lit (.bool false)], args := [d] }
  | _ => none }
def FlightChecksWrongFalsely : Prop := flightChecksRow.holds Tryd.pinned (OpenSpec.ofChange flightChecksWrong)

/-- 'jetwaylaw08.FlightWays': WHATEVER THE INPUT: true; the input reads as it did. -/
def flightWaysSpec : ChangeSpec := { name := "flightWays", fn := fun _ => fun
  | [d1, d2, d3, d4] => { results := [.lit (.bool true)], args := [d1, d2, d3, d4] }
  | _ => none }
def flightWaysRow : OpenClaim := { program := "ytodholjbefifeaadoor", sum := "e2743dbe1bb0f467ebd95c257a7f1a91dbe5693212cc6e8b33085f1da650b812", func := "jetway/jetwaylaw08.FlightWays", spec := "flightWays", unfollowed := true, recurses := true, named := ["internal/strconv.uint64pow10", "math/bits.deBruijn32tab", "math/bits.deBruijn64tab"], plainKeys := false, apart := false, laid := [("math/bits.deBruijn32tab", laid_math_bits_deBruijn32tab), ("math/bits.deBruijn64tab", laid_math_bits_deBruijn64tab), ("internal/strconv.uint64pow10", laid_internal_strconv_uint64pow10)] }
def FlightWaysSaid : Prop := flightWaysRow.holds Tryd.pinned (OpenSpec.ofChange flightWaysSpec)

/-- ITS FALSE NEIGHBOUR: 'it returns false'. Refute it at one input. -/
def flightWaysWrong : ChangeSpec := { name := "flightWays", fn := fun _ => fun
  | [d1, d2, d3, d4] => { results := [.lit (.bool false)], args := [d1, d2, d3, d4] }
  | _ => none }
def FlightWaysWrongFalsely : Prop := flightWaysRow.holds Tryd.pinned (OpenSpec.ofChange flightWaysWrong)

/-- 'jetwaylaw08.FlightLinks': WHATEVER THE INPUT: true; the input reads as it did. -/
def flightLinksSpec : ChangeSpec := { name := "flightLinks", fn := fun _ => fun
  | [d1, d2, d3, d4] => { results := [.lit (.bool true)], args := [d1, d2, d3, d4] }
  | _ => none }
def flightLinksRow : OpenClaim := { program := "ytodholjbefifeaadoor", sum := "e2743dbe1bb0f467ebd95c257a7f1a91dbe5693212cc6e8b33085f1da650b812", func := "jetway/jetwaylaw08.FlightLinks", spec := "flightLinks", unfollowed := true, recurses := true, named := ["internal/strconv.uint64pow10", "math/bits.deBruijn32tab", "math/bits.deBruijn64tab"], plainKeys := false, apart := false, laid := [("math/bits.deBruijn32tab", laid_math_bits_deBruijn32tab), ("math/bits.deBruijn64tab", laid_math_bits_deBruijn64tab), ("internal/strconv.uint64pow10", laid_internal_strconv_uint64pow10)] }
def FlightLinksSaid : Prop := flightLinksRow.holds Tryd.pinned (OpenSpec.ofChange flightLinksSpec)

/-- ITS FALSE NEIGHBOUR: 'it returns false'. Refute it at one input. -/
def flightLinksWrong : ChangeSpec := { name := "flightLinks", fn := fun _ => fun
  | [d1, d2, d3, d4] => { results := [.lit (.bool false)], args := [d1, d2, d3, d4] }
  | _ => none }
def FlightLinksWrongFalsely : Prop := flightLinksRow.holds Tryd.pinned (OpenSpec.ofChange flightLinksWrong)

/-- 'jetwaylaw08.FlightOrder': WHATEVER THE INPUT: true; the input reads as it did. -/
def flightOrderSpec : ChangeSpec := { name := "flightOrder", fn := fun _ => fun
  | [d1, d2, d3, d4, d5] => { results := [.lit (.bool true)], args := [d1, d2, d3, d4, d5] }
  | _ => none }
def flightOrderRow : OpenClaim := { program := "ytodholjbefifeaadoor", sum := "e2743dbe1bb0f467ebd95c257a7f1a91dbe5693212cc6e8b33085f1da650b812", func := "jetway/jetwaylaw08.FlightOrder", spec := "flightOrder", unfollowed := true, recurses := true, named := ["internal/strconv.uint64pow10", "math/bits.deBruijn32tab", "math/bits.deBruijn64tab"], plainKeys := false, apart := false, laid := [("math/bits.deBruijn32tab", laid_math_bits_deBruijn32tab), ("math/bits.deBruijn64tab", laid_math_bits_deBruijn64tab), ("internal/strconv.uint64pow10", laid_internal_strconv_uint64pow10)] }
def FlightOrderSaid : Prop := flightOrderRow.holds Tryd.pinned (OpenSpec.ofChange flightOrderSpec)

/-- ITS FALSE NEIGHBOUR: 'it returns false'. Refute it at one input. -/
def flightOrderWrong : ChangeSpec := { name := "flightOrder", fn := fun _ => fun
  | [d1, d2, d3, d4, d5] => { results := [.lit (.bool false)], args := [d1, d2, d3, d4, d5] }
  | _ => none }
def FlightOrderWrongFalsely : Prop := flightOrderRow.holds Tryd.pinned (OpenSpec.ofChange flightOrderWrong)

/-- 'jetwaylaw08.FlightTables': WHATEVER THE INPUT: true; the input reads as it did. -/
def flightTablesSpec : ChangeSpec := { name := "flightTables", fn := fun _ => fun
  | [d1, d2] => { results := [.lit (.bool true)], args := [d1, d2] }
  | _ => none }
def flightTablesRow : OpenClaim := { program := "ytodholjbefifeaadoor", sum := "e2743dbe1bb0f467ebd95c257a7f1a91dbe5693212cc6e8b33085f1da650b812", func := "jetway/jetwaylaw08.FlightTables", spec := "flightTables", unfollowed := true, recurses := true, named := ["internal/strconv.uint64pow10", "math/bits.deBruijn32tab", "math/bits.deBruijn64tab"], plainKeys := false, apart := false, laid := [("math/bits.deBruijn32tab", laid_math_bits_deBruijn32tab), ("math/bits.deBruijn64tab", laid_math_bits_deBruijn64tab), ("internal/strconv.uint64pow10", laid_internal_strconv_uint64pow10)] }
def FlightTablesSaid : Prop := flightTablesRow.holds Tryd.pinned (OpenSpec.ofChange flightTablesSpec)

/-- ITS FALSE NEIGHBOUR: 'it returns false'. Refute it at one input. -/
def flightTablesWrong : ChangeSpec := { name := "flightTables", fn := fun _ => fun
  | [d1, d2] => { results := [.lit (.bool false)], args := [d1, d2] }
  | _ => none }
def FlightTablesWrongFalsely : Prop := flightTablesRow.holds Tryd.pinned (OpenSpec.ofChange flightTablesWrong)

/-- 'jetwaylaw08.FlightDays': WHATEVER THE INPUT: true; the input reads as it did. -/
def flightDaysSpec : ChangeSpec := { name := "flightDays", fn := fun _ => fun
  | [d1, d2, d3] => { results := [.lit (.bool true)], args := [d1, d2, d3] }
  | _ => none }
def flightDaysRow : OpenClaim := { program := "ytodholjbefifeaadoor", sum := "e2743dbe1bb0f467ebd95c257a7f1a91dbe5693212cc6e8b33085f1da650b812", func := "jetway/jetwaylaw08.FlightDays", spec := "flightDays", unfollowed := true, recurses := true, named := ["internal/strconv.uint64pow10", "math/bits.deBruijn32tab", "math/bits.deBruijn64tab"], plainKeys := false, apart := false, laid := [("math/bits.deBruijn32tab", laid_math_bits_deBruijn32tab), ("math/bits.deBruijn64tab", laid_math_bits_deBruijn64tab), ("internal/strconv.uint64pow10", laid_internal_strconv_uint64pow10)] }
def FlightDaysSaid : Prop := flightDaysRow.holds Tryd.pinned (OpenSpec.ofChange flightDaysSpec)

/-- ITS FALSE NEIGHBOUR: 'it returns false'. Refute it at one input. -/
def flightDaysWrong : ChangeSpec := { name := "flightDays", fn := fun _ => fun
  | [d1, d2, d3] => { results := [.lit (.bool false)], args := [d1, d2, d3] }
  | _ => none }
def FlightDaysWrongFalsely : Prop := flightDaysRow.holds Tryd.pinned (OpenSpec.ofChange flightDaysWrong)

/- THE SECOND FORM. 'bulk': how many values and letters a reading holds, each counted each time it is reached (what is shared counts as often as it is met; a slice's spare places count too). A statement '..UptoSaid' is the law's where the arguments, and the package variables that the reading takes, are together of bulk at most 1048576: NARROWER than '..Said'. Prove '..Said' where nothing that the law and all that it calls make is longer than what came in: it says more and counts as full. Else prove '..UptoSaid'. A law counts once. -/
mutual
def uptoBulk {H : Type} : DataW H → Nat
  | .lit (.string bytes) => bytes.length + 1
  | .lit _ => 1
  | .nil => 1
  | .ptr d => uptoBulk d + 1
  | .slice elems spare => uptoBulkAll elems + uptoBulkAll spare + 1
  | .agg parts => uptoBulkAll parts + 1
  | .iface _ d => uptoBulk d + 1
  | .map entries => uptoBulkEntries entries + 1
  | .held _ => 1
def uptoBulkAll {H : Type} : List (DataW H) → Nat
  | [] => 0
  | d :: r => uptoBulk d + uptoBulkAll r
def uptoBulkEntries {H : Type} : List (Lit × DataW H) → Nat
  | [] => 0
  | x :: r => uptoBulkEntry x + uptoBulkEntries r
def uptoBulkEntry {H : Type} : Lit × DataW H → Nat
  | (.string bytes, d) => bytes.length + uptoBulk d + 1
  | (_, d) => uptoBulk d + 1
 end
def uptoSmall : (H : Type) → List (DataW H) → Bool := fun _ ds => decide (uptoBulkAll ds ≤ 1048576)
def OpenSpec.upto (s : _root_.Go.ChangeSpec) : _root_.Go.OpenSpec := { _root_.Go.OpenSpec.ofChange s with cond := some uptoSmall }

/-- 'jetwaylaw08.FlightChecks', WHERE WHAT IT READS IS OF BULK AT MOST 1048576: true; the input reads as it did. -/
def flightChecksUptoRow : OpenClaim := { program := "ytodholjbefifeaadoor", sum := "e2743dbe1bb0f467ebd95c257a7f1a91dbe5693212cc6e8b33085f1da650b812", func := "jetway/jetwaylaw08.FlightChecks", spec := "flightChecks", unfollowed := true, recurses := true, named := ["internal/strconv.uint64pow10", "math/bits.deBruijn32tab", "math/bits.deBruijn64tab"], plainKeys := false, apart := false, laid := [("math/bits.deBruijn32tab", laid_math_bits_deBruijn32tab), ("math/bits.deBruijn64tab", laid_math_bits_deBruijn64tab), ("internal/strconv.uint64pow10", laid_internal_strconv_uint64pow10)], narrowed := true }
def FlightChecksUptoSaid : Prop := flightChecksUptoRow.holds Tryd.pinned (OpenSpec.upto flightChecksSpec)

/-- 'jetwaylaw08.FlightWays', WHERE WHAT IT READS IS OF BULK AT MOST 1048576: true; the input reads as it did. -/
def flightWaysUptoRow : OpenClaim := { program := "ytodholjbefifeaadoor", sum := "e2743dbe1bb0f467ebd95c257a7f1a91dbe5693212cc6e8b33085f1da650b812", func := "jetway/jetwaylaw08.FlightWays", spec := "flightWays", unfollowed := true, recurses := true, named := ["internal/strconv.uint64pow10", "math/bits.deBruijn32tab", "math/bits.deBruijn64tab"], plainKeys := false, apart := false, laid := [("math/bits.deBruijn32tab", laid_math_bits_deBruijn32tab), ("math/bits.deBruijn64tab", laid_math_bits_deBruijn64tab), ("internal/strconv.uint64pow10", laid_internal_strconv_uint64pow10)], narrowed := true }
def FlightWaysUptoSaid : Prop := flightWaysUptoRow.holds Tryd.pinned (OpenSpec.upto flightWaysSpec)

/-- 'jetwaylaw08.FlightLinks', WHERE WHAT IT READS IS OF BULK AT MOST 1048576: true; the input reads as it did. -/
def flightLinksUptoRow : OpenClaim := { program := "ytodholjbefifeaadoor", sum := "e2743dbe1bb0f467ebd95c257a7f1a91dbe5693212cc6e8b33085f1da650b812", func := "jetway/jetwaylaw08.FlightLinks", spec := "flightLinks", unfollowed := true, recurses := true, named := ["internal/strconv.uint64pow10", "math/bits.deBruijn32tab", "math/bits.deBruijn64tab"], plainKeys := false, apart := false, laid := [("math/bits.deBruijn32tab", laid_math_bits_deBruijn32tab), ("math/bits.deBruijn64tab", laid_math_bits_deBruijn64tab), ("internal/strconv.uint64pow10", laid_internal_strconv_uint64pow10)], narrowed := true }
def FlightLinksUptoSaid : Prop := flightLinksUptoRow.holds Tryd.pinned (OpenSpec.upto flightLinksSpec)

/-- 'jetwaylaw08.FlightOrder', WHERE WHAT IT READS IS OF BULK AT MOST 1048576: true; the input reads as it did. -/
def flightOrderUptoRow : OpenClaim := { program := "ytodholjbefifeaadoor", sum := "e2743dbe1bb0f467ebd95c257a7f1a91dbe5693212cc6e8b33085f1da650b812", func := "jetway/jetwaylaw08.FlightOrder", spec := "flightOrder", unfollowed := true, recurses := true, named := ["internal/strconv.uint64pow10", "math/bits.deBruijn32tab", "math/bits.deBruijn64tab"], plainKeys := false, apart := false, laid := [("math/bits.deBruijn32tab", laid_math_bits_deBruijn32tab), ("math/bits.deBruijn64tab", laid_math_bits_deBruijn64tab), ("internal/strconv.uint64pow10", laid_internal_strconv_uint64pow10)], narrowed := true }
def FlightOrderUptoSaid : Prop := flightOrderUptoRow.holds Tryd.pinned (OpenSpec.upto flightOrderSpec)

/-- 'jetwaylaw08.FlightTables', WHERE WHAT IT READS IS OF BULK AT MOST 1048576: true; the input reads as it did. -/
def flightTablesUptoRow : OpenClaim := { program := "ytodholjbefifeaadoor", sum := "e2743dbe1bb0f467ebd95c257a7f1a91dbe5693212cc6e8b33085f1da650b812", func := "jetway/jetwaylaw08.FlightTables", spec := "flightTables", unfollowed := true, recurses := true, named := ["internal/strconv.uint64pow10", "math/bits.deBruijn32tab", "math/bits.deBruijn64tab"], plainKeys := false, apart := false, laid := [("math/bits.deBruijn32tab", laid_math_bits_deBruijn32tab), ("math/bits.deBruijn64tab", laid_math_bits_deBruijn64tab), ("internal/strconv.uint64pow10", laid_internal_strconv_uint64pow10)], narrowed := true }
def FlightTablesUptoSaid : Prop := flightTablesUptoRow.holds Tryd.pinned (OpenSpec.upto flightTablesSpec)

/-- 'jetwaylaw08.FlightDays', WHERE WHAT IT READS IS OF BULK AT MOST 1048576: true; the input reads as it did. -/
def flightDaysUptoRow : OpenClaim := { program := "ytodholjbefifeaadoor", sum := "e2743dbe1bb0f467ebd95c257a7f1a91dbe5693212cc6e8b33085f1da650b812", func := "jetway/jetwaylaw08.FlightDays", spec := "flightDays", unfollowed := true, recurses := true, named := ["internal/strconv.uint64pow10", "math/bits.deBruijn32tab", "math/bits.deBruijn64tab"], plainKeys := false, apart := false, laid := [("math/bits.deBruijn32tab", laid_math_bits_deBruijn32tab), ("math/bits.deBruijn64tab", laid_math_bits_deBruijn64tab), ("internal/strconv.uint64pow10", laid_internal_strconv_uint64pow10)], narrowed := true }
def FlightDaysUptoSaid : Prop := flightDaysUptoRow.holds Tryd.pinned (OpenSpec.upto flightDaysSpec)

end Rows
end Go.Proofs.YtodholjbefifeaaDoor
