/-
  No cell of these rows narrows 'for every input' (looked for: loops, veiled, ifaces, maps, wideKeys, modest, calm, conditions, laid).
  DERIVED. THE GIVEN ROWS OF THIS SEAT. 16 by the template 'for every input the law returns true; each argument reads behind the call as it read before'; 0 by the template 'total and deterministic' (their statements: YtoejhikcnnppnaaTotals.lean).
  GIVEN WITH THE SEED: the statements are not yours to turn. If you find one false, say at which input.
  Laid BY PROGRAM, IN A SANDBOX (cutbox-rows.mjs): the forced cells as the released guide's own fill.sh prints them over the translation c7940ca68c8ae83f… (all of the seat's roots in one cut). By AI agents, Wed Nov 11 2026. No macro, syntax, notation, axiom, sorry.
-/
import Derived.Test.YtoejhikcnnppnaaChecked
import GoSem.Claim
import GoSem.ClaimJoined
import GoSem.ClaimMapViews
import Derived.JoinedTies
import Derived.KernelRfl
namespace Go.Proofs.Ytoejhikcnnppnaa
/- THE CELL 'sum', in the pinned program and in every row, IS THE sha256 OF THE DUMP (.gsa) THAT YtoejhikcnnppnaaProg.lean LOADS. Nothing in Lean hashes anything: it is a label: what it is worth is what the hold of that sum in a sandbox is worth. -/
noncomputable def Try.pinned : Pinned := { name := "ytoejhikcnnppnaa", sum := "c7940ca68c8ae83f1a3e173c79ba8bdc2ffd618a3541753fb0dfebe5c2d51951", checked := Try.checked }
namespace Rows
def none {H : Type} : Left H := { results := [], args := [] }

/-- 'windowpanelaw03.RatioValid': WHATEVER THE INPUT: true; the input reads as it did. -/
def ratioValidSpec : ChangeSpec := { name := "ratioValid", fn := fun _ => fun
  | [d] => { results := [.lit (.bool true)], args := [d] }
  | _ => none }
def ratioValidRow : OpenClaim := { program := "ytoejhikcnnppnaa", sum := "c7940ca68c8ae83f1a3e173c79ba8bdc2ffd618a3541753fb0dfebe5c2d51951", func := "windowpane/windowpanelaw03.RatioValid", spec := "ratioValid", inPlace := ["math/bits.Sub64"], apart := false }
def RatioValidSaid : Prop := ratioValidRow.holds Try.pinned (OpenSpec.ofChange ratioValidSpec)

/-- ITS FALSE NEIGHBOUR: 'it returns false'. Refute it at one input. -/
def ratioValidWrong : ChangeSpec := { name := "ratioValid", fn := fun _ => fun
  | [d] => { results := [.lit (.bool false)], args := [d] }
  | _ => none }
def RatioValidWrongFalsely : Prop := ratioValidRow.holds Try.pinned (OpenSpec.ofChange ratioValidWrong)

/-- 'windowpanelaw03.RatioRounds': WHATEVER THE INPUT: true; the input reads as it did. -/
def ratioRoundsSpec : ChangeSpec := { name := "ratioRounds", fn := fun _ => fun
  | [d] => { results := [.lit (.bool true)], args := [d] }
  | _ => none }
def ratioRoundsRow : OpenClaim := { program := "ytoejhikcnnppnaa", sum := "c7940ca68c8ae83f1a3e173c79ba8bdc2ffd618a3541753fb0dfebe5c2d51951", func := "windowpane/windowpanelaw03.RatioRounds", spec := "ratioRounds", inPlace := ["math/bits.Sub64"], apart := false }
def RatioRoundsSaid : Prop := ratioRoundsRow.holds Try.pinned (OpenSpec.ofChange ratioRoundsSpec)

/-- ITS FALSE NEIGHBOUR: 'it returns false'. Refute it at one input. -/
def ratioRoundsWrong : ChangeSpec := { name := "ratioRounds", fn := fun _ => fun
  | [d] => { results := [.lit (.bool false)], args := [d] }
  | _ => none }
def RatioRoundsWrongFalsely : Prop := ratioRoundsRow.holds Try.pinned (OpenSpec.ofChange ratioRoundsWrong)

/-- 'windowpanelaw03.RatioMakes': WHATEVER THE INPUT: true; the input reads as it did. -/
def ratioMakesSpec : ChangeSpec := { name := "ratioMakes", fn := fun _ => fun
  | [d1, d2] => { results := [.lit (.bool true)], args := [d1, d2] }
  | _ => none }
def ratioMakesRow : OpenClaim := { program := "ytoejhikcnnppnaa", sum := "c7940ca68c8ae83f1a3e173c79ba8bdc2ffd618a3541753fb0dfebe5c2d51951", func := "windowpane/windowpanelaw03.RatioMakes", spec := "ratioMakes", inPlace := ["math/bits.Sub64"], apart := false }
def RatioMakesSaid : Prop := ratioMakesRow.holds Try.pinned (OpenSpec.ofChange ratioMakesSpec)

/-- ITS FALSE NEIGHBOUR: 'it returns false'. Refute it at one input. -/
def ratioMakesWrong : ChangeSpec := { name := "ratioMakes", fn := fun _ => fun
  | [d1, d2] => { results := [.lit (.bool false)], args := [d1, d2] }
  | _ => none }
def RatioMakesWrongFalsely : Prop := ratioMakesRow.holds Try.pinned (OpenSpec.ofChange ratioMakesWrong)

/-- 'windowpanelaw03.RatioMultiplies': WHATEVER THE INPUT: true; the input reads as it did. -/
def ratioMultipliesSpec : ChangeSpec := { name := "ratioMultiplies", fn := fun _ => fun
  | [d1, d2] => { results := [.lit (.bool true)], args := [d1, d2] }
  | _ => none }
def ratioMultipliesRow : OpenClaim := { program := "ytoejhikcnnppnaa", sum := "c7940ca68c8ae83f1a3e173c79ba8bdc2ffd618a3541753fb0dfebe5c2d51951", func := "windowpane/windowpanelaw03.RatioMultiplies", spec := "ratioMultiplies", inPlace := ["math/bits.Sub64"], apart := false }
def RatioMultipliesSaid : Prop := ratioMultipliesRow.holds Try.pinned (OpenSpec.ofChange ratioMultipliesSpec)

/-- ITS FALSE NEIGHBOUR: 'it returns false'. Refute it at one input. -/
def ratioMultipliesWrong : ChangeSpec := { name := "ratioMultiplies", fn := fun _ => fun
  | [d1, d2] => { results := [.lit (.bool false)], args := [d1, d2] }
  | _ => none }
def RatioMultipliesWrongFalsely : Prop := ratioMultipliesRow.holds Try.pinned (OpenSpec.ofChange ratioMultipliesWrong)

/-- 'windowpanelaw03.RatioCompares': WHATEVER THE INPUT: true; the input reads as it did. -/
def ratioComparesSpec : ChangeSpec := { name := "ratioCompares", fn := fun _ => fun
  | [d1, d2] => { results := [.lit (.bool true)], args := [d1, d2] }
  | _ => none }
def ratioComparesRow : OpenClaim := { program := "ytoejhikcnnppnaa", sum := "c7940ca68c8ae83f1a3e173c79ba8bdc2ffd618a3541753fb0dfebe5c2d51951", func := "windowpane/windowpanelaw03.RatioCompares", spec := "ratioCompares", inPlace := ["math/bits.Sub64"], apart := false }
def RatioComparesSaid : Prop := ratioComparesRow.holds Try.pinned (OpenSpec.ofChange ratioComparesSpec)

/-- ITS FALSE NEIGHBOUR: 'it returns false'. Refute it at one input. -/
def ratioComparesWrong : ChangeSpec := { name := "ratioCompares", fn := fun _ => fun
  | [d1, d2] => { results := [.lit (.bool false)], args := [d1, d2] }
  | _ => none }
def RatioComparesWrongFalsely : Prop := ratioComparesRow.holds Try.pinned (OpenSpec.ofChange ratioComparesWrong)

/-- 'windowpanelaw03.RatioBetween': WHATEVER THE INPUT: true; the input reads as it did. -/
def ratioBetweenSpec : ChangeSpec := { name := "ratioBetween", fn := fun _ => fun
  | [d] => { results := [.lit (.bool true)], args := [d] }
  | _ => none }
def ratioBetweenRow : OpenClaim := { program := "ytoejhikcnnppnaa", sum := "c7940ca68c8ae83f1a3e173c79ba8bdc2ffd618a3541753fb0dfebe5c2d51951", func := "windowpane/windowpanelaw03.RatioBetween", spec := "ratioBetween", inPlace := ["math/bits.Sub64"], apart := false }
def RatioBetweenSaid : Prop := ratioBetweenRow.holds Try.pinned (OpenSpec.ofChange ratioBetweenSpec)

/-- ITS FALSE NEIGHBOUR: 'it returns false'. Refute it at one input. -/
def ratioBetweenWrong : ChangeSpec := { name := "ratioBetween", fn := fun _ => fun
  | [d] => { results := [.lit (.bool false)], args := [d] }
  | _ => none }
def RatioBetweenWrongFalsely : Prop := ratioBetweenRow.holds Try.pinned (OpenSpec.ofChange ratioBetweenWrong)

/-- 'windowpanelaw03.RatioAdds': WHATEVER THE INPUT: true; the input reads as it did. -/
def ratioAddsSpec : ChangeSpec := { name := "ratioAdds", fn := fun _ => fun
  | [d1, d2] => { results := [.lit (.bool true)], args := [d1, d2] }
  | _ => none }
def ratioAddsRow : OpenClaim := { program := "ytoejhikcnnppnaa", sum := "c7940ca68c8ae83f1a3e173c79ba8bdc2ffd618a3541753fb0dfebe5c2d51951", func := "windowpane/windowpanelaw03.RatioAdds", spec := "ratioAdds", inPlace := ["math/bits.Sub64", "math/bits.Add64"], apart := false }
def RatioAddsSaid : Prop := ratioAddsRow.holds Try.pinned (OpenSpec.ofChange ratioAddsSpec)

/-- ITS FALSE NEIGHBOUR: 'it returns false'. Refute it at one input. -/
def ratioAddsWrong : ChangeSpec := { name := "ratioAdds", fn := fun _ => fun
  | [d1, d2] => { results := [.lit (.bool false)], args := [d1, d2] }
  | _ => none }
def RatioAddsWrongFalsely : Prop := ratioAddsRow.holds Try.pinned (OpenSpec.ofChange ratioAddsWrong)

/-- 'windowpanelaw03.RatioUndoes': WHATEVER THE INPUT: true; the input reads as it did. -/
def ratioUndoesSpec : ChangeSpec := { name := "ratioUndoes", fn := fun _ => fun
  | [d1, d2] => { results := [.lit (.bool true)], args := [d1, d2] }
  | _ => none }
def ratioUndoesRow : OpenClaim := { program := "ytoejhikcnnppnaa", sum := "c7940ca68c8ae83f1a3e173c79ba8bdc2ffd618a3541753fb0dfebe5c2d51951", func := "windowpane/windowpanelaw03.RatioUndoes", spec := "ratioUndoes", inPlace := ["math/bits.Sub64", "math/bits.Add64"], apart := false }
def RatioUndoesSaid : Prop := ratioUndoesRow.holds Try.pinned (OpenSpec.ofChange ratioUndoesSpec)

/-- ITS FALSE NEIGHBOUR: 'it returns false'. Refute it at one input. -/
def ratioUndoesWrong : ChangeSpec := { name := "ratioUndoes", fn := fun _ => fun
  | [d1, d2] => { results := [.lit (.bool false)], args := [d1, d2] }
  | _ => none }
def RatioUndoesWrongFalsely : Prop := ratioUndoesRow.holds Try.pinned (OpenSpec.ofChange ratioUndoesWrong)

/-- 'windowpanelaw04.BoundsValid': WHATEVER THE INPUT: true; the input reads as it did. -/
def boundsValidSpec : ChangeSpec := { name := "boundsValid", fn := fun _ => fun
  | [d] => { results := [.lit (.bool true)], args := [d] }
  | _ => none }
def boundsValidRow : OpenClaim := { program := "ytoejhikcnnppnaa", sum := "c7940ca68c8ae83f1a3e173c79ba8bdc2ffd618a3541753fb0dfebe5c2d51951", func := "windowpane/windowpanelaw04.BoundsValid", spec := "boundsValid", inPlace := ["math/bits.Sub64"], apart := false }
def BoundsValidSaid : Prop := boundsValidRow.holds Try.pinned (OpenSpec.ofChange boundsValidSpec)

/-- ITS FALSE NEIGHBOUR: 'it returns false'. Refute it at one input. -/
def boundsValidWrong : ChangeSpec := { name := "boundsValid", fn := fun _ => fun
  | [d] => { results := [.lit (.bool false)], args := [d] }
  | _ => none }
def BoundsValidWrongFalsely : Prop := boundsValidRow.holds Try.pinned (OpenSpec.ofChange boundsValidWrong)

/-- 'windowpanelaw04.BoundsHolds': WHATEVER THE INPUT: true; the input reads as it did. -/
def boundsHoldsSpec : ChangeSpec := { name := "boundsHolds", fn := fun _ => fun
  | [d1, d2] => { results := [.lit (.bool true)], args := [d1, d2] }
  | _ => none }
def boundsHoldsRow : OpenClaim := { program := "ytoejhikcnnppnaa", sum := "c7940ca68c8ae83f1a3e173c79ba8bdc2ffd618a3541753fb0dfebe5c2d51951", func := "windowpane/windowpanelaw04.BoundsHolds", spec := "boundsHolds", inPlace := ["math/bits.Sub64"], apart := false }
def BoundsHoldsSaid : Prop := boundsHoldsRow.holds Try.pinned (OpenSpec.ofChange boundsHoldsSpec)

/-- ITS FALSE NEIGHBOUR: 'it returns false'. Refute it at one input. -/
def boundsHoldsWrong : ChangeSpec := { name := "boundsHolds", fn := fun _ => fun
  | [d1, d2] => { results := [.lit (.bool false)], args := [d1, d2] }
  | _ => none }
def BoundsHoldsWrongFalsely : Prop := boundsHoldsRow.holds Try.pinned (OpenSpec.ofChange boundsHoldsWrong)

/-- 'windowpanelaw04.BoundsMakes': WHATEVER THE INPUT: true; the input reads as it did. -/
def boundsMakesSpec : ChangeSpec := { name := "boundsMakes", fn := fun _ => fun
  | [d1, d2, d3] => { results := [.lit (.bool true)], args := [d1, d2, d3] }
  | _ => none }
def boundsMakesRow : OpenClaim := { program := "ytoejhikcnnppnaa", sum := "c7940ca68c8ae83f1a3e173c79ba8bdc2ffd618a3541753fb0dfebe5c2d51951", func := "windowpane/windowpanelaw04.BoundsMakes", spec := "boundsMakes", inPlace := ["math/bits.Sub64"], apart := false }
def BoundsMakesSaid : Prop := boundsMakesRow.holds Try.pinned (OpenSpec.ofChange boundsMakesSpec)

/-- ITS FALSE NEIGHBOUR: 'it returns false'. Refute it at one input. -/
def boundsMakesWrong : ChangeSpec := { name := "boundsMakes", fn := fun _ => fun
  | [d1, d2, d3] => { results := [.lit (.bool false)], args := [d1, d2, d3] }
  | _ => none }
def BoundsMakesWrongFalsely : Prop := boundsMakesRow.holds Try.pinned (OpenSpec.ofChange boundsMakesWrong)

/-- 'windowpanelaw04.BoundsMeets': WHATEVER THE INPUT: true; the input reads as it did. -/
def boundsMeetsSpec : ChangeSpec := { name := "boundsMeets", fn := fun _ => fun
  | [d1, d2, d3] => { results := [.lit (.bool true)], args := [d1, d2, d3] }
  | _ => none }
def boundsMeetsRow : OpenClaim := { program := "ytoejhikcnnppnaa", sum := "c7940ca68c8ae83f1a3e173c79ba8bdc2ffd618a3541753fb0dfebe5c2d51951", func := "windowpane/windowpanelaw04.BoundsMeets", spec := "boundsMeets", inPlace := ["math/bits.Sub64"], apart := false }
def BoundsMeetsSaid : Prop := boundsMeetsRow.holds Try.pinned (OpenSpec.ofChange boundsMeetsSpec)

/-- ITS FALSE NEIGHBOUR: 'it returns false'. Refute it at one input. -/
def boundsMeetsWrong : ChangeSpec := { name := "boundsMeets", fn := fun _ => fun
  | [d1, d2, d3] => { results := [.lit (.bool false)], args := [d1, d2, d3] }
  | _ => none }
def BoundsMeetsWrongFalsely : Prop := boundsMeetsRow.holds Try.pinned (OpenSpec.ofChange boundsMeetsWrong)

/-- 'windowpanelaw04.BoundsAdds': WHATEVER THE INPUT: true; the input reads as it did. -/
def boundsAddsSpec : ChangeSpec := { name := "boundsAdds", fn := fun _ => fun
  | [d1, d2] => { results := [.lit (.bool true)], args := [d1, d2] }
  | _ => none }
def boundsAddsRow : OpenClaim := { program := "ytoejhikcnnppnaa", sum := "c7940ca68c8ae83f1a3e173c79ba8bdc2ffd618a3541753fb0dfebe5c2d51951", func := "windowpane/windowpanelaw04.BoundsAdds", spec := "boundsAdds", inPlace := ["math/bits.Sub64", "math/bits.Add64"], apart := false }
def BoundsAddsSaid : Prop := boundsAddsRow.holds Try.pinned (OpenSpec.ofChange boundsAddsSpec)

/-- ITS FALSE NEIGHBOUR: 'it returns false'. Refute it at one input. -/
def boundsAddsWrong : ChangeSpec := { name := "boundsAdds", fn := fun _ => fun
  | [d1, d2] => { results := [.lit (.bool false)], args := [d1, d2] }
  | _ => none }
def BoundsAddsWrongFalsely : Prop := boundsAddsRow.holds Try.pinned (OpenSpec.ofChange boundsAddsWrong)

/-- 'windowpanelaw04.BoundsWithin': WHATEVER THE INPUT: true; the input reads as it did. -/
def boundsWithinSpec : ChangeSpec := { name := "boundsWithin", fn := fun _ => fun
  | [d1, d2, d3] => { results := [.lit (.bool true)], args := [d1, d2, d3] }
  | _ => none }
def boundsWithinRow : OpenClaim := { program := "ytoejhikcnnppnaa", sum := "c7940ca68c8ae83f1a3e173c79ba8bdc2ffd618a3541753fb0dfebe5c2d51951", func := "windowpane/windowpanelaw04.BoundsWithin", spec := "boundsWithin", inPlace := ["math/bits.Sub64", "math/bits.Add64"], apart := false }
def BoundsWithinSaid : Prop := boundsWithinRow.holds Try.pinned (OpenSpec.ofChange boundsWithinSpec)

/-- ITS FALSE NEIGHBOUR: 'it returns false'. Refute it at one input. -/
def boundsWithinWrong : ChangeSpec := { name := "boundsWithin", fn := fun _ => fun
  | [d1, d2, d3] => { results := [.lit (.bool false)], args := [d1, d2, d3] }
  | _ => none }
def BoundsWithinWrongFalsely : Prop := boundsWithinRow.holds Try.pinned (OpenSpec.ofChange boundsWithinWrong)

/-- 'windowpanelaw04.BoundsNarrow': WHATEVER THE INPUT: true; the input reads as it did. -/
def boundsNarrowSpec : ChangeSpec := { name := "boundsNarrow", fn := fun _ => fun
  | [d1, d2, d3, d4, d5] => { results := [.lit (.bool true)], args := [d1, d2, d3, d4, d5] }
  | _ => none }
def boundsNarrowRow : OpenClaim := { program := "ytoejhikcnnppnaa", sum := "c7940ca68c8ae83f1a3e173c79ba8bdc2ffd618a3541753fb0dfebe5c2d51951", func := "windowpane/windowpanelaw04.BoundsNarrow", spec := "boundsNarrow", inPlace := ["math/bits.Sub64", "math/bits.Add64"], apart := false }
def BoundsNarrowSaid : Prop := boundsNarrowRow.holds Try.pinned (OpenSpec.ofChange boundsNarrowSpec)

/-- ITS FALSE NEIGHBOUR: 'it returns false'. Refute it at one input. -/
def boundsNarrowWrong : ChangeSpec := { name := "boundsNarrow", fn := fun _ => fun
  | [d1, d2, d3, d4, d5] => { results := [.lit (.bool false)], args := [d1, d2, d3, d4, d5] }
  | _ => none }
def BoundsNarrowWrongFalsely : Prop := boundsNarrowRow.holds Try.pinned (OpenSpec.ofChange boundsNarrowWrong)

/-- 'windowpanelaw04.BoundsSumHolds': WHATEVER THE INPUT: true; the input reads as it did. -/
def boundsSumHoldsSpec : ChangeSpec := { name := "boundsSumHolds", fn := fun _ => fun
  | [d1, d2, d3, d4] => { results := [.lit (.bool true)], args := [d1, d2, d3, d4] }
  | _ => none }
def boundsSumHoldsRow : OpenClaim := { program := "ytoejhikcnnppnaa", sum := "c7940ca68c8ae83f1a3e173c79ba8bdc2ffd618a3541753fb0dfebe5c2d51951", func := "windowpane/windowpanelaw04.BoundsSumHolds", spec := "boundsSumHolds", inPlace := ["math/bits.Sub64", "math/bits.Add64"], apart := false }
def BoundsSumHoldsSaid : Prop := boundsSumHoldsRow.holds Try.pinned (OpenSpec.ofChange boundsSumHoldsSpec)

/-- ITS FALSE NEIGHBOUR: 'it returns false'. Refute it at one input. -/
def boundsSumHoldsWrong : ChangeSpec := { name := "boundsSumHolds", fn := fun _ => fun
  | [d1, d2, d3, d4] => { results := [.lit (.bool false)], args := [d1, d2, d3, d4] }
  | _ => none }
def BoundsSumHoldsWrongFalsely : Prop := boundsSumHoldsRow.holds Try.pinned (OpenSpec.ofChange boundsSumHoldsWrong)

/- THE SECOND FORM. 'bulk': how many values and letters a reading holds, each counted each time it is reached (what is shared counts as often as it is met; a slice's spare places count too). A statement '..UptoSaid' is the law's where the arguments, and the package variables that the reading takes, are together of bulk at most 1048576: NARROWER than '..Said'. Prove '..Said' where nothing that the law and all that it calls make is longer than what came in: it says more and counts as full. Else prove '..UptoSaid'. A law counts once. -/
mutual
def uptoBulk {H : Type} : DataW H → Nat
  | .lit (.string bytes) => bytes.length + 1
  | .lit _ => 1
  | .nil => 1
  | .ptr d => uptoBulk d + 1
  | .slice elems spare => uptoBulkAll elems + uptoBulkAll spare + 1
  | .agg parts => uptoBulkAll parts + 1
  | .iface _ d => uptoBulk d + 1
  | .map entries => uptoBulkEntries entries + 1
  | .held _ => 1
def uptoBulkAll {H : Type} : List (DataW H) → Nat
  | [] => 0
  | d :: r => uptoBulk d + uptoBulkAll r
def uptoBulkEntries {H : Type} : List (Lit × DataW H) → Nat
  | [] => 0
  | x :: r => uptoBulkEntry x + uptoBulkEntries r
def uptoBulkEntry {H : Type} : Lit × DataW H → Nat
  | (.string bytes, d) => bytes.length + uptoBulk d + 1
  | (_, d) => uptoBulk d + 1
 end
def uptoSmall : (H : Type) → List (DataW H) → Bool := fun _ ds => decide (uptoBulkAll ds ≤ 1048576)
def OpenSpec.upto (s : _root_.Go.ChangeSpec) : _root_.Go.OpenSpec := { _root_.Go.OpenSpec.ofChange s with cond := some uptoSmall }

/-- 'windowpanelaw03.RatioValid', WHERE WHAT IT READS IS OF BULK AT MOST 1048576: true; the input reads as it did. -/
def ratioValidUptoRow : OpenClaim := { program := "ytoejhikcnnppnaa", sum := "c7940ca68c8ae83f1a3e173c79ba8bdc2ffd618a3541753fb0dfebe5c2d51951", func := "windowpane/windowpanelaw03.RatioValid", spec := "ratioValid", inPlace := ["math/bits.Sub64"], apart := false, narrowed := true }
def RatioValidUptoSaid : Prop := ratioValidUptoRow.holds Try.pinned (OpenSpec.upto ratioValidSpec)

/-- 'windowpanelaw03.RatioRounds', WHERE WHAT IT READS IS OF BULK AT MOST 1048576: true; the input reads as it did. -/
def ratioRoundsUptoRow : OpenClaim := { program := "ytoejhikcnnppnaa", sum := "c7940ca68c8ae83f1a3e173c79ba8bdc2ffd618a3541753fb0dfebe5c2d51951", func := "windowpane/windowpanelaw03.RatioRounds", spec := "ratioRounds", inPlace := ["math/bits.Sub64"], apart := false, narrowed := true }
def RatioRoundsUptoSaid : Prop := ratioRoundsUptoRow.holds Try.pinned (OpenSpec.upto ratioRoundsSpec)

/-- 'windowpanelaw03.RatioMakes', WHERE WHAT IT READS IS OF BULK AT MOST 1048576: true; the input reads as it did. -/
def ratioMakesUptoRow : OpenClaim := { program := "ytoejhikcnnppnaa", sum := "c7940ca68c8ae83f1a3e173c79ba8bdc2ffd618a3541753fb0dfebe5c2d51951", func := "windowpane/windowpanelaw03.RatioMakes", spec := "ratioMakes", inPlace := ["math/bits.Sub64"], apart := false, narrowed := true }
def RatioMakesUptoSaid : Prop := ratioMakesUptoRow.holds Try.pinned (OpenSpec.upto ratioMakesSpec)

/-- 'windowpanelaw03.RatioMultiplies', WHERE WHAT IT READS IS OF BULK AT MOST 1048576: true; the input reads as it did. -/
def ratioMultipliesUptoRow : OpenClaim := { program := "ytoejhikcnnppnaa", sum := "c7940ca68c8ae83f1a3e173c79ba8bdc2ffd618a3541753fb0dfebe5c2d51951", func := "windowpane/windowpanelaw03.RatioMultiplies", spec := "ratioMultiplies", inPlace := ["math/bits.Sub64"], apart := false, narrowed := true }
def RatioMultipliesUptoSaid : Prop := ratioMultipliesUptoRow.holds Try.pinned (OpenSpec.upto ratioMultipliesSpec)

/-- 'windowpanelaw03.RatioCompares', WHERE WHAT IT READS IS OF BULK AT MOST 1048576: true; the input reads as it did. -/
def ratioComparesUptoRow : OpenClaim := { program := "ytoejhikcnnppnaa", sum := "c7940ca68c8ae83f1a3e173c79ba8bdc2ffd618a3541753fb0dfebe5c2d51951", func := "windowpane/windowpanelaw03.RatioCompares", spec := "ratioCompares", inPlace := ["math/bits.Sub64"], apart := false, narrowed := true }
def RatioComparesUptoSaid : Prop := ratioComparesUptoRow.holds Try.pinned (OpenSpec.upto ratioComparesSpec)

/-- 'windowpanelaw03.RatioBetween', WHERE WHAT IT READS IS OF BULK AT MOST 1048576: true; the input reads as it did. -/
def ratioBetweenUptoRow : OpenClaim := { program := "ytoejhikcnnppnaa", sum := "c7940ca68c8ae83f1a3e173c79ba8bdc2ffd618a3541753fb0dfebe5c2d51951", func := "windowpane/windowpanelaw03.RatioBetween", spec := "ratioBetween", inPlace := ["math/bits.Sub64"], apart := false, narrowed := true }
def RatioBetweenUptoSaid : Prop := ratioBetweenUptoRow.holds Try.pinned (OpenSpec.upto ratioBetweenSpec)

/-- 'windowpanelaw03.RatioAdds', WHERE WHAT IT READS IS OF BULK AT MOST 1048576: true; the input reads as it did. -/
def ratioAddsUptoRow : OpenClaim := { program := "ytoejhikcnnppnaa", sum := "c7940ca68c8ae83f1a3e173c79ba8bdc2ffd618a3541753fb0dfebe5c2d51951", func := "windowpane/windowpanelaw03.RatioAdds", spec := "ratioAdds", inPlace := ["math/bits.Sub64", "math/bits.Add64"], apart := false, narrowed := true }
def RatioAddsUptoSaid : Prop := ratioAddsUptoRow.holds Try.pinned (OpenSpec.upto ratioAddsSpec)

/-- 'windowpanelaw03.RatioUndoes', WHERE WHAT IT READS IS OF BULK AT MOST 1048576: true; the input reads as it did. -/
def ratioUndoesUptoRow : OpenClaim := { program := "ytoejhikcnnppnaa", sum := "c7940ca68c8ae83f1a3e173c79ba8bdc2ffd618a3541753fb0dfebe5c2d51951", func := "windowpane/windowpanelaw03.RatioUndoes", spec := "ratioUndoes", inPlace := ["math/bits.Sub64", "math/bits.Add64"], apart := false, narrowed := true }
def RatioUndoesUptoSaid : Prop := ratioUndoesUptoRow.holds Try.pinned (OpenSpec.upto ratioUndoesSpec)

/-- 'windowpanelaw04.BoundsValid', WHERE WHAT IT READS IS OF BULK AT MOST 1048576: true; the input reads as it did. -/
def boundsValidUptoRow : OpenClaim := { program := "ytoejhikcnnppnaa", sum := "c7940ca68c8ae83f1a3e173c79ba8bdc2ffd618a3541753fb0dfebe5c2d51951", func := "windowpane/windowpanelaw04.BoundsValid", spec := "boundsValid", inPlace := ["math/bits.Sub64"], apart := false, narrowed := true }
def BoundsValidUptoSaid : Prop := boundsValidUptoRow.holds Try.pinned (OpenSpec.upto boundsValidSpec)

/-- 'windowpanelaw04.BoundsHolds', WHERE WHAT IT READS IS OF BULK AT MOST 1048576: true; the input reads as it did. -/
def boundsHoldsUptoRow : OpenClaim := { program := "ytoejhikcnnppnaa", sum := "c7940ca68c8ae83f1a3e173c79ba8bdc2ffd618a3541753fb0dfebe5c2d51951", func := "windowpane/windowpanelaw04.BoundsHolds", spec := "boundsHolds", inPlace := ["math/bits.Sub64"], apart := false, narrowed := true }
def BoundsHoldsUptoSaid : Prop := boundsHoldsUptoRow.holds Try.pinned (OpenSpec.upto boundsHoldsSpec)

/-- 'windowpanelaw04.BoundsMakes', WHERE WHAT IT READS IS OF BULK AT MOST 1048576: true; the input reads as it did. -/
def boundsMakesUptoRow : OpenClaim := { program := "ytoejhikcnnppnaa", sum := "c7940ca68c8ae83f1a3e173c79ba8bdc2ffd618a3541753fb0dfebe5c2d51951", func := "windowpane/windowpanelaw04.BoundsMakes", spec := "boundsMakes", inPlace := ["math/bits.Sub64"], apart := false, narrowed := true }
def BoundsMakesUptoSaid : Prop := boundsMakesUptoRow.holds Try.pinned (OpenSpec.upto boundsMakesSpec)

/-- 'windowpanelaw04.BoundsMeets', WHERE WHAT IT READS IS OF BULK AT MOST 1048576: true; the input reads as it did. -/
def boundsMeetsUptoRow : OpenClaim := { program := "ytoejhikcnnppnaa", sum := "c7940ca68c8ae83f1a3e173c79ba8bdc2ffd618a3541753fb0dfebe5c2d51951", func := "windowpane/windowpanelaw04.BoundsMeets", spec := "boundsMeets", inPlace := ["math/bits.Sub64"], apart := false, narrowed := true }
def BoundsMeetsUptoSaid : Prop := boundsMeetsUptoRow.holds Try.pinned (OpenSpec.upto boundsMeetsSpec)

/-- 'windowpanelaw04.BoundsAdds', WHERE WHAT IT READS IS OF BULK AT MOST 1048576: true; the input reads as it did. -/
def boundsAddsUptoRow : OpenClaim := { program := "ytoejhikcnnppnaa", sum := "c7940ca68c8ae83f1a3e173c79ba8bdc2ffd618a3541753fb0dfebe5c2d51951", func := "windowpane/windowpanelaw04.BoundsAdds", spec := "boundsAdds", inPlace := ["math/bits.Sub64", "math/bits.Add64"], apart := false, narrowed := true }
def BoundsAddsUptoSaid : Prop := boundsAddsUptoRow.holds Try.pinned (OpenSpec.upto boundsAddsSpec)

/-- 'windowpanelaw04.BoundsWithin', WHERE WHAT IT READS IS OF BULK AT MOST 1048576: true; the input reads as it did. -/
def boundsWithinUptoRow : OpenClaim := { program := "ytoejhikcnnppnaa", sum := "c7940ca68c8ae83f1a3e173c79ba8bdc2ffd618a3541753fb0dfebe5c2d51951", func := "windowpane/windowpanelaw04.BoundsWithin", spec := "boundsWithin", inPlace := ["math/bits.Sub64", "math/bits.Add64"], apart := false, narrowed := true }
def BoundsWithinUptoSaid : Prop := boundsWithinUptoRow.holds Try.pinned (OpenSpec.upto boundsWithinSpec)

/-- 'windowpanelaw04.BoundsNarrow', WHERE WHAT IT READS IS OF BULK AT MOST 1048576: true; the input reads as it did. -/
def boundsNarrowUptoRow : OpenClaim := { program := "ytoejhikcnnppnaa", sum := "c7940ca68c8ae83f1a3e173c79ba8bdc2ffd618a3541753fb0dfebe5c2d51951", func := "windowpane/windowpanelaw04.BoundsNarrow", spec := "boundsNarrow", inPlace := ["math/bits.Sub64", "math/bits.Add64"], apart := false, narrowed := true }
def BoundsNarrowUptoSaid : Prop := boundsNarrowUptoRow.holds Try.pinned (OpenSpec.upto boundsNarrowSpec)

/-- 'windowpanelaw04.BoundsSumHolds', WHERE WHAT IT READS IS OF BULK AT MOST 1048576: true; the input reads as it did. -/
def boundsSumHoldsUptoRow : OpenClaim := { program := "ytoejhikcnnppnaa", sum := "c7940ca68c8ae83f1a3e173c79ba8bdc2ffd618a3541753fb0dfebe5c2d51951", func := "windowpane/windowpanelaw04.BoundsSumHolds", spec := "boundsSumHolds", inPlace := ["math/bits.Sub64", "math/bits.Add64"], apart := false, narrowed := true }
def BoundsSumHoldsUptoSaid : Prop := boundsSumHoldsUptoRow.holds Try.pinned (OpenSpec.upto boundsSumHoldsSpec)

end Rows
end Go.Proofs.Ytoejhikcnnppnaa
