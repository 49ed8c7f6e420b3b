/-
  No cell of these rows narrows 'for every input' (looked for: loops, veiled, ifaces, maps, wideKeys, modest, calm, conditions, laid).
  DERIVED. THE GIVEN ROWS OF THIS SEAT. 4 by the template 'for every input the law returns true; each argument reads behind the call as it read before'; 0 by the template 'total and deterministic' (their statements: YtfbalabmidobeaaTotals.lean).
  GIVEN WITH THE SEED: the statements are not yours to turn. If you find one false, say at which input.
  Laid BY PROGRAM, IN A SANDBOX (cutbox-rows.mjs): the forced cells as the released guide's own fill.sh prints them over the translation 0e8b495fdb7d46a8… (all of the seat's roots in one cut). By AI agents, Wed Nov 11 2026. No macro, syntax, notation, axiom, sorry.
-/
import Derived.Test.YtfbalabmidobeaaChecked
import GoSem.Claim
import GoSem.ClaimJoined
import GoSem.ClaimMapViews
import Derived.JoinedTies
import Derived.KernelRfl
namespace Go.Proofs.Ytfbalabmidobeaa
/- THE CELL 'sum', in the pinned program and in every row, IS THE sha256 OF THE DUMP (.gsa) THAT YtfbalabmidobeaaProg.lean LOADS. Nothing in Lean hashes anything: it is a label: what it is worth is what the hold of that sum in a sandbox is worth. -/
noncomputable def Try.pinned : Pinned := { name := "ytfbalabmidobeaa", sum := "0e8b495fdb7d46a8693b1b7e85f65a4be6a203d37277fcb8680aeeef43920070", checked := Try.checked }
namespace Rows
def none {H : Type} : Left H := { results := [], args := [] }

/-- 'jetwaylaw16.DueTake': WHATEVER THE INPUT: true; the input reads as it did. -/
def dueTakeSpec : ChangeSpec := { name := "dueTake", fn := fun _ => fun
  | [d1, d2] => { results := [.lit (.bool true)], args := [d1, d2] }
  | _ => none }
def dueTakeRow : OpenClaim := { program := "ytfbalabmidobeaa", sum := "0e8b495fdb7d46a8693b1b7e85f65a4be6a203d37277fcb8680aeeef43920070", func := "jetway/jetwaylaw16.DueTake", spec := "dueTake", unfollowed := true, recurses := true, apart := false }
def DueTakeSaid : Prop := dueTakeRow.holds Try.pinned (OpenSpec.ofChange dueTakeSpec)

/-- ITS FALSE NEIGHBOUR: 'it returns false'. Refute it at one input. -/
def dueTakeWrong : ChangeSpec := { name := "dueTake", fn := fun _ => fun
  | [d1, d2] => { results := [.lit (.bool false)], args := [d1, d2] }
  | _ => none }
def DueTakeWrongFalsely : Prop := dueTakeRow.holds Try.pinned (OpenSpec.ofChange dueTakeWrong)

/-- 'jetwaylaw16.DuePlays': WHATEVER THE INPUT: true; the input reads as it did. -/
def duePlaysSpec : ChangeSpec := { name := "duePlays", fn := fun _ => fun
  | [d] => { results := [.lit (.bool true)], args := [d] }
  | _ => none }
def duePlaysRow : OpenClaim := { program := "ytfbalabmidobeaa", sum := "0e8b495fdb7d46a8693b1b7e85f65a4be6a203d37277fcb8680aeeef43920070", func := "jetway/jetwaylaw16.DuePlays", spec := "duePlays", unfollowed := true, recurses := true, apart := false }
def DuePlaysSaid : Prop := duePlaysRow.holds Try.pinned (OpenSpec.ofChange duePlaysSpec)

/-- ITS FALSE NEIGHBOUR: 'it returns false'. Refute it at one input. -/
def duePlaysWrong : ChangeSpec := { name := "duePlays", fn := fun _ => fun
  | [d] => { results := [.lit (.bool false)], args := [d] }
  | _ => none }
def DuePlaysWrongFalsely : Prop := duePlaysRow.holds Try.pinned (OpenSpec.ofChange duePlaysWrong)

/-- 'jetwaylaw16.DueOrder': WHATEVER THE INPUT: true; the input reads as it did. -/
def dueOrderSpec : ChangeSpec := { name := "dueOrder", fn := fun _ => fun
  | [d1, d2] => { results := [.lit (.bool true)], args := [d1, d2] }
  | _ => none }
def dueOrderRow : OpenClaim := { program := "ytfbalabmidobeaa", sum := "0e8b495fdb7d46a8693b1b7e85f65a4be6a203d37277fcb8680aeeef43920070", func := "jetway/jetwaylaw16.DueOrder", spec := "dueOrder", unfollowed := true, recurses := true, apart := false }
def DueOrderSaid : Prop := dueOrderRow.holds Try.pinned (OpenSpec.ofChange dueOrderSpec)

/-- ITS FALSE NEIGHBOUR: 'it returns false'. Refute it at one input. -/
def dueOrderWrong : ChangeSpec := { name := "dueOrder", fn := fun _ => fun
  | [d1, d2] => { results := [.lit (.bool false)], args := [d1, d2] }
  | _ => none }
def DueOrderWrongFalsely : Prop := dueOrderRow.holds Try.pinned (OpenSpec.ofChange dueOrderWrong)

/-- 'jetwaylaw16.DueOnce': WHATEVER THE INPUT: true; the input reads as it did. -/
def dueOnceSpec : ChangeSpec := { name := "dueOnce", fn := fun _ => fun
  | [d1, d2, d3, d4] => { results := [.lit (.bool true)], args := [d1, d2, d3, d4] }
  | _ => none }
def dueOnceRow : OpenClaim := { program := "ytfbalabmidobeaa", sum := "0e8b495fdb7d46a8693b1b7e85f65a4be6a203d37277fcb8680aeeef43920070", func := "jetway/jetwaylaw16.DueOnce", spec := "dueOnce", unfollowed := true, recurses := true, apart := false }
def DueOnceSaid : Prop := dueOnceRow.holds Try.pinned (OpenSpec.ofChange dueOnceSpec)

/-- ITS FALSE NEIGHBOUR: 'it returns false'. Refute it at one input. -/
def dueOnceWrong : ChangeSpec := { name := "dueOnce", fn := fun _ => fun
  | [d1, d2, d3, d4] => { results := [.lit (.bool false)], args := [d1, d2, d3, d4] }
  | _ => none }
def DueOnceWrongFalsely : Prop := dueOnceRow.holds Try.pinned (OpenSpec.ofChange dueOnceWrong)

/- THE SECOND FORM. 'bulk': how many values and letters a reading holds, each counted each time it is reached (what is shared counts as often as it is met; a slice's spare places count too). A statement '..UptoSaid' is the law's where the arguments, and the package variables that the reading takes, are together of bulk at most 1048576: NARROWER than '..Said'. Prove '..Said' where nothing that the law and all that it calls make is longer than what came in: it says more and counts as full. Else prove '..UptoSaid'. A law counts once. -/
mutual
def uptoBulk {H : Type} : DataW H → Nat
  | .lit (.string bytes) => bytes.length + 1
  | .lit _ => 1
  | .nil => 1
  | .ptr d => uptoBulk d + 1
  | .slice elems spare => uptoBulkAll elems + uptoBulkAll spare + 1
  | .agg parts => uptoBulkAll parts + 1
  | .iface _ d => uptoBulk d + 1
  | .map entries => uptoBulkEntries entries + 1
  | .held _ => 1
def uptoBulkAll {H : Type} : List (DataW H) → Nat
  | [] => 0
  | d :: r => uptoBulk d + uptoBulkAll r
def uptoBulkEntries {H : Type} : List (Lit × DataW H) → Nat
  | [] => 0
  | x :: r => uptoBulkEntry x + uptoBulkEntries r
def uptoBulkEntry {H : Type} : Lit × DataW H → Nat
  | (.string bytes, d) => bytes.length + uptoBulk d + 1
  | (_, d) => uptoBulk d + 1
 end
def uptoSmall : (H : Type) → List (DataW H) → Bool := fun _ ds => decide (uptoBulkAll ds ≤ 1048576)
def OpenSpec.upto (s : _root_.Go.ChangeSpec) : _root_.Go.OpenSpec := { _root_.Go.OpenSpec.ofChange s with cond := some uptoSmall }

/-- 'jetwaylaw16.DueTake', WHERE WHAT IT READS IS OF BULK AT MOST 1048576: true; the input reads as it did. -/
def dueTakeUptoRow : OpenClaim := { program := "ytfbalabmidobeaa", sum := "0e8b495fdb7d46a8693b1b7e85f65a4be6a203d37277fcb8680aeeef43920070", func := "jetway/jetwaylaw16.DueTake", spec := "dueTake", unfollowed := true, recurses := true, apart := false, narrowed := true }
def DueTakeUptoSaid : Prop := dueTakeUptoRow.holds Try.pinned (OpenSpec.upto dueTakeSpec)

/-- 'jetwaylaw16.DuePlays', WHERE WHAT IT READS IS OF BULK AT MOST 1048576: true; the input reads as it did. -/
def duePlaysUptoRow : OpenClaim := { program := "ytfbalabmidobeaa", sum := "0e8b495fdb7d46a8693b1b7e85f65a4be6a203d37277fcb8680aeeef43920070", func := "jetway/jetwaylaw16.DuePlays", spec := "duePlays", unfollowed := true, recurses := true, apart := false, narrowed := true }
def DuePlaysUptoSaid : Prop := duePlaysUptoRow.holds Try.pinned (OpenSpec.upto duePlaysSpec)

/-- 'jetwaylaw16.DueOrder', WHERE WHAT IT READS IS OF BULK AT MOST 1048576: true; the input reads as it did. -/
def dueOrderUptoRow : OpenClaim := { program := "ytfbalabmidobeaa", sum := "0e8b495fdb7d46a8693b1b7e85f65a4be6a203d37277fcb8680aeeef43920070", func := "jetway/jetwaylaw16.DueOrder", spec := "dueOrder", unfollowed := true, recurses := true, apart := false, narrowed := true }
def DueOrderUptoSaid : Prop := dueOrderUptoRow.holds Try.pinned (OpenSpec.upto dueOrderSpec)

/-- 'jetwaylaw16.DueOnce', WHERE WHAT IT READS IS OF BULK AT MOST 1048576: true; the input reads as it did. -/
def dueOnceUptoRow : OpenClaim := { program := "ytfbalabmidobeaa", sum := "0e8b495fdb7d46a8693b1b7e85f65a4be6a203d37277fcb8680aeeef43920070", func := "jetway/jetwaylaw16.DueOnce", spec := "dueOnce", unfollowed := true, recurses := true, apart := false, narrowed := true }
def DueOnceUptoSaid : Prop := dueOnceUptoRow.holds Try.pinned (OpenSpec.upto dueOnceSpec)

end Rows
end Go.Proofs.Ytfbalabmidobeaa
