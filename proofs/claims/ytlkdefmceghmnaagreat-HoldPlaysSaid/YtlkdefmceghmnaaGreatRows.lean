/-
  No cell of these rows narrows 'for every input' (looked for: loops, veiled, ifaces, maps, wideKeys, modest, calm, conditions, laid).
  DERIVED. THE GIVEN ROWS OF THIS SEAT. 9 by the template 'for every input the law returns true; each argument reads behind the call as it read before'; 0 by the template 'total and deterministic' (their statements: YtlkdefmceghmnaaGreatTotals.lean).
  GIVEN WITH THE SEED: the statements are not yours to turn. If you find one false, say at which input.
  Laid BY PROGRAM, IN A SANDBOX (cutbox-rows.mjs): the forced cells as the released guide's own fill.sh prints them over the translation cec6676ef750371f… (all of the seat's roots in one cut). By AI agents, Wed Nov 11 2026. No macro, syntax, notation, axiom, sorry.
-/
import Derived.Test.YtlkdefmceghmnaaGreatChecked
import GoSem.Claim
import GoSem.ClaimJoined
import GoSem.ClaimMapViews
import Derived.JoinedTies
import Derived.KernelRfl
namespace Go.Proofs.YtlkdefmceghmnaaGreat
/- THE CELL 'sum', in the pinned program and in every row, IS THE sha256 OF THE DUMP (.gsa) THAT YtlkdefmceghmnaaGreatProg.lean LOADS. Nothing in Lean hashes anything: it is a label: what it is worth is what the hold of that sum in a sandbox is worth. -/
noncomputable def Tryz.pinned : Pinned := { name := "ytlkdefmceghmnaagreat", sum := "cec6676ef750371fb655ba6202866de56ebfd75675c9f9e543402fc721a61e14", checked := Tryz.checked }
namespace Rows
def none {H : Type} : Left H := { results := [], args := [] }

/-- 'jetwaylaw10.StockApart': WHATEVER THE INPUT: true; the input reads as it did. -/
def stockApartSpec : ChangeSpec := { name := "stockApart", fn := fun _ => fun
  | [d1, d2, d3, d4, d5] => { results := [.lit (.bool true)], args := [d1, d2, d3, d4, d5] }
  | _ => none }
def stockApartRow : OpenClaim := { program := "ytlkdefmceghmnaagreat", sum := "cec6676ef750371fb655ba6202866de56ebfd75675c9f9e543402fc721a61e14", func := "jetway/jetwaylaw10.StockApart", spec := "stockApart", inPlace := ["maps.clone"], unfollowed := true, recurses := true, plainKeys := false, apart := false }
def StockApartSaid : Prop := stockApartRow.holds Tryz.pinned (OpenSpec.ofChange stockApartSpec)

/-- ITS FALSE NEIGHBOUR: 'it returns false'. Refute it at one input. -/
def stockApartWrong : ChangeSpec := { name := "stockApart", fn := fun _ => fun
  | [d1, d2, d3, d4, d5] => { results := [.lit (.bool false)], args := [d1, d2, d3, d4, d5] }
  | _ => none }
def StockApartWrongFalsely : Prop := stockApartRow.holds Tryz.pinned (OpenSpec.ofChange stockApartWrong)

/-- 'jetwaylaw10.StockNever': WHATEVER THE INPUT: true; the input reads as it did. -/
def stockNeverSpec : ChangeSpec := { name := "stockNever", fn := fun _ => fun
  | [d1, d2] => { results := [.lit (.bool true)], args := [d1, d2] }
  | _ => none }
def stockNeverRow : OpenClaim := { program := "ytlkdefmceghmnaagreat", sum := "cec6676ef750371fb655ba6202866de56ebfd75675c9f9e543402fc721a61e14", func := "jetway/jetwaylaw10.StockNever", spec := "stockNever", unfollowed := true, recurses := true, plainKeys := false, apart := false }
def StockNeverSaid : Prop := stockNeverRow.holds Tryz.pinned (OpenSpec.ofChange stockNeverSpec)

/-- ITS FALSE NEIGHBOUR: 'it returns false'. Refute it at one input. -/
def stockNeverWrong : ChangeSpec := { name := "stockNever", fn := fun _ => fun
  | [d1, d2] => { results := [.lit (.bool false)], args := [d1, d2] }
  | _ => none }
def StockNeverWrongFalsely : Prop := stockNeverRow.holds Tryz.pinned (OpenSpec.ofChange stockNeverWrong)

/-- 'jetwaylaw10.StockBack': WHATEVER THE INPUT: true; the input reads as it did. -/
def stockBackSpec : ChangeSpec := { name := "stockBack", fn := fun _ => fun
  | [d1, d2, d3, d4] => { results := [.lit (.bool true)], args := [d1, d2, d3, d4] }
  | _ => none }
def stockBackRow : OpenClaim := { program := "ytlkdefmceghmnaagreat", sum := "cec6676ef750371fb655ba6202866de56ebfd75675c9f9e543402fc721a61e14", func := "jetway/jetwaylaw10.StockBack", spec := "stockBack", inPlace := ["maps.clone"], unfollowed := true, recurses := true, plainKeys := false, apart := false }
def StockBackSaid : Prop := stockBackRow.holds Tryz.pinned (OpenSpec.ofChange stockBackSpec)

/-- ITS FALSE NEIGHBOUR: 'it returns false'. Refute it at one input. -/
def stockBackWrong : ChangeSpec := { name := "stockBack", fn := fun _ => fun
  | [d1, d2, d3, d4] => { results := [.lit (.bool false)], args := [d1, d2, d3, d4] }
  | _ => none }
def StockBackWrongFalsely : Prop := stockBackRow.holds Tryz.pinned (OpenSpec.ofChange stockBackWrong)

/-- 'jetwaylaw10.StockPlays': WHATEVER THE INPUT: true; the input reads as it did. -/
def stockPlaysSpec : ChangeSpec := { name := "stockPlays", fn := fun _ => fun
  | [d1, d2] => { results := [.lit (.bool true)], args := [d1, d2] }
  | _ => none }
def stockPlaysRow : OpenClaim := { program := "ytlkdefmceghmnaagreat", sum := "cec6676ef750371fb655ba6202866de56ebfd75675c9f9e543402fc721a61e14", func := "jetway/jetwaylaw10.StockPlays", spec := "stockPlays", unfollowed := true, recurses := true, plainKeys := false, apart := false }
def StockPlaysSaid : Prop := stockPlaysRow.holds Tryz.pinned (OpenSpec.ofChange stockPlaysSpec)

/-- ITS FALSE NEIGHBOUR: 'it returns false'. Refute it at one input. -/
def stockPlaysWrong : ChangeSpec := { name := "stockPlays", fn := fun _ => fun
  | [d1, d2] => { results := [.lit (.bool false)], args := [d1, d2] }
  | _ => none }
def StockPlaysWrongFalsely : Prop := stockPlaysRow.holds Tryz.pinned (OpenSpec.ofChange stockPlaysWrong)

/-- 'jetwaylaw10.StockLines': WHATEVER THE INPUT: true; the input reads as it did. -/
def stockLinesSpec : ChangeSpec := { name := "stockLines", fn := fun _ => fun
  | [d1, d2, d3, d4] => { results := [.lit (.bool true)], args := [d1, d2, d3, d4] }
  | _ => none }
def stockLinesRow : OpenClaim := { program := "ytlkdefmceghmnaagreat", sum := "cec6676ef750371fb655ba6202866de56ebfd75675c9f9e543402fc721a61e14", func := "jetway/jetwaylaw10.StockLines", spec := "stockLines", unfollowed := true, recurses := true, plainKeys := false, apart := false }
def StockLinesSaid : Prop := stockLinesRow.holds Tryz.pinned (OpenSpec.ofChange stockLinesSpec)

/-- ITS FALSE NEIGHBOUR: 'it returns false'. Refute it at one input. -/
def stockLinesWrong : ChangeSpec := { name := "stockLines", fn := fun _ => fun
  | [d1, d2, d3, d4] => { results := [.lit (.bool false)], args := [d1, d2, d3, d4] }
  | _ => none }
def StockLinesWrongFalsely : Prop := stockLinesRow.holds Tryz.pinned (OpenSpec.ofChange stockLinesWrong)

/-- 'jetwaylaw11.HoldPlays': WHATEVER THE INPUT: true; the input reads as it did. -/
def holdPlaysSpec : ChangeSpec := { name := "holdPlays", fn := fun _ => fun
  | [d1, d2] => { results := [.lit (.bool true)], args := [d1, d2] }
  | _ => none }
def holdPlaysRow : OpenClaim := { program := "ytlkdefmceghmnaagreat", sum := "cec6676ef750371fb655ba6202866de56ebfd75675c9f9e543402fc721a61e14", func := "jetway/jetwaylaw11.HoldPlays", spec := "holdPlays", inPlace := ["internal/bytealg.IndexByteString"], unfollowed := true, recurses := true, plainKeys := false, apart := false }
def HoldPlaysSaid : Prop := holdPlaysRow.holds Tryz.pinned (OpenSpec.ofChange holdPlaysSpec)

/-- ITS FALSE NEIGHBOUR: 'it returns false'. Refute it at one input. -/
def holdPlaysWrong : ChangeSpec := { name := "holdPlays", fn := fun _ => fun
  | [d1, d2] => { results := [.lit (.bool false)], args := [d1, d2] }
  | _ => none }
def HoldPlaysWrongFalsely : Prop := holdPlaysRow.holds Tryz.pinned (OpenSpec.ofChange holdPlaysWrong)

/-- 'jetwaylaw11.HoldOne': WHATEVER THE INPUT: true; the input reads as it did. -/
def holdOneSpec : ChangeSpec := { name := "holdOne", fn := fun _ => fun
  | [d1, d2, d3] => { results := [.lit (.bool true)], args := [d1, d2, d3] }
  | _ => none }
def holdOneRow : OpenClaim := { program := "ytlkdefmceghmnaagreat", sum := "cec6676ef750371fb655ba6202866de56ebfd75675c9f9e543402fc721a61e14", func := "jetway/jetwaylaw11.HoldOne", spec := "holdOne", inPlace := ["internal/bytealg.IndexByteString"], unfollowed := true, recurses := true, plainKeys := false, apart := false }
def HoldOneSaid : Prop := holdOneRow.holds Tryz.pinned (OpenSpec.ofChange holdOneSpec)

/-- ITS FALSE NEIGHBOUR: 'it returns false'. Refute it at one input. -/
def holdOneWrong : ChangeSpec := { name := "holdOne", fn := fun _ => fun
  | [d1, d2, d3] => { results := [.lit (.bool false)], args := [d1, d2, d3] }
  | _ => none }
def HoldOneWrongFalsely : Prop := holdOneRow.holds Tryz.pinned (OpenSpec.ofChange holdOneWrong)

/-- 'jetwaylaw11.HoldList': WHATEVER THE INPUT: true; the input reads as it did. -/
def holdListSpec : ChangeSpec := { name := "holdList", fn := fun _ => fun
  | [d1, d2] => { results := [.lit (.bool true)], args := [d1, d2] }
  | _ => none }
def holdListRow : OpenClaim := { program := "ytlkdefmceghmnaagreat", sum := "cec6676ef750371fb655ba6202866de56ebfd75675c9f9e543402fc721a61e14", func := "jetway/jetwaylaw11.HoldList", spec := "holdList", inPlace := ["internal/bytealg.IndexByteString"], unfollowed := true, recurses := true, plainKeys := false, apart := false }
def HoldListSaid : Prop := holdListRow.holds Tryz.pinned (OpenSpec.ofChange holdListSpec)

/-- ITS FALSE NEIGHBOUR: 'it returns false'. Refute it at one input. -/
def holdListWrong : ChangeSpec := { name := "holdList", fn := fun _ => fun
  | [d1, d2] => { results := [.lit (.bool false)], args := [d1, d2] }
  | _ => none }
def HoldListWrongFalsely : Prop := holdListRow.holds Tryz.pinned (OpenSpec.ofChange holdListWrong)

/-- 'jetwaylaw11.HoldApart': WHATEVER THE INPUT: true; the input reads as it did. -/
def holdApartSpec : ChangeSpec := { name := "holdApart", fn := fun _ => fun
  | [d1, d2, d3, d4] => { results := [.lit (.bool true)], args := [d1, d2, d3, d4] }
  | _ => none }
def holdApartRow : OpenClaim := { program := "ytlkdefmceghmnaagreat", sum := "cec6676ef750371fb655ba6202866de56ebfd75675c9f9e543402fc721a61e14", func := "jetway/jetwaylaw11.HoldApart", spec := "holdApart", inPlace := ["internal/bytealg.IndexByteString", "maps.clone"], unfollowed := true, recurses := true, plainKeys := false, apart := false }
def HoldApartSaid : Prop := holdApartRow.holds Tryz.pinned (OpenSpec.ofChange holdApartSpec)

/-- ITS FALSE NEIGHBOUR: 'it returns false'. Refute it at one input. -/
def holdApartWrong : ChangeSpec := { name := "holdApart", fn := fun _ => fun
  | [d1, d2, d3, d4] => { results := [.lit (.bool false)], args := [d1, d2, d3, d4] }
  | _ => none }
def HoldApartWrongFalsely : Prop := holdApartRow.holds Tryz.pinned (OpenSpec.ofChange holdApartWrong)

/- THE SECOND FORM. 'bulk': how many values and letters a reading holds, each counted each time it is reached (what is shared counts as often as it is met; a slice's spare places count too). A statement '..UptoSaid' is the law's where the arguments, and the package variables that the reading takes, are together of bulk at most 1048576: NARROWER than '..Said'. Prove '..Said' where nothing that the law and all that it calls make is longer than what came in: it says more and counts as full. Else prove '..UptoSaid'. A law counts once. -/
mutual
def uptoBulk {H : Type} : DataW H → Nat
  | .lit (.string bytes) => bytes.length + 1
  | .lit _ => 1
  | .nil => 1
  | .ptr d => uptoBulk d + 1
  | .slice elems spare => uptoBulkAll elems + uptoBulkAll spare + 1
  | .agg parts => uptoBulkAll parts + 1
  | .iface _ d => uptoBulk d + 1
  | .map entries => uptoBulkEntries entries + 1
  | .held _ => 1
def uptoBulkAll {H : Type} : List (DataW H) → Nat
  | [] => 0
  | d :: r => uptoBulk d + uptoBulkAll r
def uptoBulkEntries {H : Type} : List (Lit × DataW H) → Nat
  | [] => 0
  | x :: r => uptoBulkEntry x + uptoBulkEntries r
def uptoBulkEntry {H : Type} : Lit × DataW H → Nat
  | (.string bytes, d) => bytes.length + uptoBulk d + 1
  | (_, d) => uptoBulk d + 1
 end
def uptoSmall : (H : Type) → List (DataW H) → Bool := fun _ ds => decide (uptoBulkAll ds ≤ 1048576)
def OpenSpec.upto (s : _root_.Go.ChangeSpec) : _root_.Go.OpenSpec := { _root_.Go.OpenSpec.ofChange s with cond := some uptoSmall }

/-- 'jetwaylaw10.StockApart', WHERE WHAT IT READS IS OF BULK AT MOST 1048576: true; the input reads as it did. -/
def stockApartUptoRow : OpenClaim := { program := "ytlkdefmceghmnaagreat", sum := "cec6676ef750371fb655ba6202866de56ebfd75675c9f9e543402fc721a61e14", func := "jetway/jetwaylaw10.StockApart", spec := "stockApart", inPlace := ["maps.clone"], unfollowed := true, recurses := true, plainKeys := false, apart := false, narrowed := true }
def StockApartUptoSaid : Prop := stockApartUptoRow.holds Tryz.pinned (OpenSpec.upto stockApartSpec)

/-- 'jetwaylaw10.StockNever', WHERE WHAT IT READS IS OF BULK AT MOST 1048576: true; the input reads as it did. -/
def stockNeverUptoRow : OpenClaim := { program := "ytlkdefmceghmnaagreat", sum := "cec6676ef750371fb655ba6202866de56ebfd75675c9f9e543402fc721a61e14", func := "jetway/jetwaylaw10.StockNever", spec := "stockNever", unfollowed := true, recurses := true, plainKeys := false, apart := false, narrowed := true }
def StockNeverUptoSaid : Prop := stockNeverUptoRow.holds Tryz.pinned (OpenSpec.upto stockNeverSpec)

/-- 'jetwaylaw10.StockBack', WHERE WHAT IT READS IS OF BULK AT MOST 1048576: true; the input reads as it did. -/
def stockBackUptoRow : OpenClaim := { program := "ytlkdefmceghmnaagreat", sum := "cec6676ef750371fb655ba6202866de56ebfd75675c9f9e543402fc721a61e14", func := "jetway/jetwaylaw10.StockBack", spec := "stockBack", inPlace := ["maps.clone"], unfollowed := true, recurses := true, plainKeys := false, apart := false, narrowed := true }
def StockBackUptoSaid : Prop := stockBackUptoRow.holds Tryz.pinned (OpenSpec.upto stockBackSpec)

/-- 'jetwaylaw10.StockPlays', WHERE WHAT IT READS IS OF BULK AT MOST 1048576: true; the input reads as it did. -/
def stockPlaysUptoRow : OpenClaim := { program := "ytlkdefmceghmnaagreat", sum := "cec6676ef750371fb655ba6202866de56ebfd75675c9f9e543402fc721a61e14", func := "jetway/jetwaylaw10.StockPlays", spec := "stockPlays", unfollowed := true, recurses := true, plainKeys := false, apart := false, narrowed := true }
def StockPlaysUptoSaid : Prop := stockPlaysUptoRow.holds Tryz.pinned (OpenSpec.upto stockPlaysSpec)

/-- 'jetwaylaw10.StockLines', WHERE WHAT IT READS IS OF BULK AT MOST 1048576: true; the input reads as it did. -/
def stockLinesUptoRow : OpenClaim := { program := "ytlkdefmceghmnaagreat", sum := "cec6676ef750371fb655ba6202866de56ebfd75675c9f9e543402fc721a61e14", func := "jetway/jetwaylaw10.StockLines", spec := "stockLines", unfollowed := true, recurses := true, plainKeys := false, apart := false, narrowed := true }
def StockLinesUptoSaid : Prop := stockLinesUptoRow.holds Tryz.pinned (OpenSpec.upto stockLinesSpec)

/-- 'jetwaylaw11.HoldPlays', WHERE WHAT IT READS IS OF BULK AT MOST 1048576: true; the input reads as it did. -/
def holdPlaysUptoRow : OpenClaim := { program := "ytlkdefmceghmnaagreat", sum := "cec6676ef750371fb655ba6202866de56ebfd75675c9f9e543402fc721a61e14", func := "jetway/jetwaylaw11.HoldPlays", spec := "holdPlays", inPlace := ["internal/bytealg.IndexByteString"], unfollowed := true, recurses := true, plainKeys := false, apart := false, narrowed := true }
def HoldPlaysUptoSaid : Prop := holdPlaysUptoRow.holds Tryz.pinned (OpenSpec.upto holdPlaysSpec)

/-- 'jetwaylaw11.HoldOne', WHERE WHAT IT READS IS OF BULK AT MOST 1048576: true; the input reads as it did. -/
def holdOneUptoRow : OpenClaim := { program := "ytlkdefmceghmnaagreat", sum := "cec6676ef750371fb655ba6202866de56ebfd75675c9f9e543402fc721a61e14", func := "jetway/jetwaylaw11.HoldOne", spec := "holdOne", inPlace := ["internal/bytealg.IndexByteString"], unfollowed := true, recurses := true, plainKeys := false, apart := false, narrowed := true }
def HoldOneUptoSaid : Prop := holdOneUptoRow.holds Tryz.pinned (OpenSpec.upto holdOneSpec)

/-- 'jetwaylaw11.HoldList', WHERE WHAT IT READS IS OF BULK AT MOST 1048576: true; the input reads as it did. -/
def holdListUptoRow : OpenClaim := { program := "ytlkdefmceghmnaagreat", sum := "cec6676ef750371fb655ba6202866de56ebfd75675c9f9e543402fc721a61e14", func := "jetway/jetwaylaw11.HoldList", spec := "holdList", inPlace := ["internal/bytealg.IndexByteString"], unfollowed := true, recurses := true, plainKeys := false, apart := false, narrowed := true }
def HoldListUptoSaid : Prop := holdListUptoRow.holds Tryz.pinned (OpenSpec.upto holdListSpec)

/-- 'jetwaylaw11.HoldApart', WHERE WHAT IT READS IS OF BULK AT MOST 1048576: true; the input reads as it did. -/
def holdApartUptoRow : OpenClaim := { program := "ytlkdefmceghmnaagreat", sum := "cec6676ef750371fb655ba6202866de56ebfd75675c9f9e543402fc721a61e14", func := "jetway/jetwaylaw11.HoldApart", spec := "holdApart", inPlace := ["internal/bytealg.IndexByteString", "maps.clone"], unfollowed := true, recurses := true, plainKeys := false, apart := false, narrowed := true }
def HoldApartUptoSaid : Prop := holdApartUptoRow.holds Tryz.pinned (OpenSpec.upto holdApartSpec)

end Rows
end Go.Proofs.YtlkdefmceghmnaaGreat
