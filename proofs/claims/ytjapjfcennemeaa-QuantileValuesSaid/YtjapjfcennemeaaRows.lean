/-
  No cell of these rows narrows 'for every input' (looked for: loops, veiled, ifaces, maps, wideKeys, modest, calm, conditions, laid).
  DERIVED. THE GIVEN ROWS OF THIS SEAT. 10 by the template 'for every input the law returns true; each argument reads behind the call as it read before'; 0 by the template 'total and deterministic' (their statements: YtjapjfcennemeaaTotals.lean).
  GIVEN WITH THE SEED: the statements are not yours to turn. If you find one false, say at which input.
  Laid BY PROGRAM, IN A SANDBOX (cutbox-rows.mjs): the forced cells as the released guide's own fill.sh prints them over the translation ad608e5b7c654e42… (all of the seat's roots in one cut). By AI agents, Wed Nov 11 2026. No macro, syntax, notation, axiom, sorry.
-/
import Derived.Test.YtjapjfcennemeaaChecked
import GoSem.Claim
import GoSem.ClaimJoined
import GoSem.ClaimMapViews
import Derived.JoinedTies
import Derived.KernelRfl
namespace Go.Proofs.Ytjapjfcennemeaa
/- THE CELL 'sum', in the pinned program and in every row, IS THE sha256 OF THE DUMP (.gsa) THAT YtjapjfcennemeaaProg.lean LOADS. Nothing in Lean hashes anything: it is a label: what it is worth is what the hold of that sum in a sandbox is worth. -/
noncomputable def Try.pinned : Pinned := { name := "ytjapjfcennemeaa", sum := "ad608e5b7c654e4259180ed1f33a5558dd08cdc170ea694da90212e324eb1d43", checked := Try.checked }
namespace Rows
def none {H : Type} : Left H := { results := [], args := [] }

/-- 'windowpanelaw22.BlocksValid': WHATEVER THE INPUT: true; the input reads as it did. -/
def blocksValidSpec : ChangeSpec := { name := "blocksValid", fn := fun _ => fun
  | [d1, d2, d3, d4] => { results := [.lit (.bool true)], args := [d1, d2, d3, d4] }
  | _ => none }
def blocksValidRow : OpenClaim := { program := "ytjapjfcennemeaa", sum := "ad608e5b7c654e4259180ed1f33a5558dd08cdc170ea694da90212e324eb1d43", func := "windowpane/windowpanelaw22.BlocksValid", spec := "blocksValid", apart := false }
def BlocksValidSaid : Prop := blocksValidRow.holds Try.pinned (OpenSpec.ofChange blocksValidSpec)

/-- ITS FALSE NEIGHBOUR: 'it returns false'. Refute it at one input. -/
def blocksValidWrong : ChangeSpec := { name := "blocksValid", fn := fun _ => fun
  | [d1, d2, d3, d4] => { results := [.lit (.bool false)], args := [d1, d2, d3, d4] }
  | _ => none }
def BlocksValidWrongFalsely : Prop := blocksValidRow.holds Try.pinned (OpenSpec.ofChange blocksValidWrong)

/-- 'windowpanelaw22.BlocksInsert': WHATEVER THE INPUT: true; the input reads as it did. -/
def blocksInsertSpec : ChangeSpec := { name := "blocksInsert", fn := fun _ => fun
  | [d1, d2, d3, d4, d5] => { results := [.lit (.bool true)], args := [d1, d2, d3, d4, d5] }
  | _ => none }
def blocksInsertRow : OpenClaim := { program := "ytjapjfcennemeaa", sum := "ad608e5b7c654e4259180ed1f33a5558dd08cdc170ea694da90212e324eb1d43", func := "windowpane/windowpanelaw22.BlocksInsert", spec := "blocksInsert", apart := false }
def BlocksInsertSaid : Prop := blocksInsertRow.holds Try.pinned (OpenSpec.ofChange blocksInsertSpec)

/-- ITS FALSE NEIGHBOUR: 'it returns false'. Refute it at one input. -/
def blocksInsertWrong : ChangeSpec := { name := "blocksInsert", fn := fun _ => fun
  | [d1, d2, d3, d4, d5] => { results := [.lit (.bool false)], args := [d1, d2, d3, d4, d5] }
  | _ => none }
def BlocksInsertWrongFalsely : Prop := blocksInsertRow.holds Try.pinned (OpenSpec.ofChange blocksInsertWrong)

/-- 'windowpanelaw22.BlocksPlain': WHATEVER THE INPUT: true; the input reads as it did. -/
def blocksPlainSpec : ChangeSpec := { name := "blocksPlain", fn := fun _ => fun
  | [d1, d2, d3] => { results := [.lit (.bool true)], args := [d1, d2, d3] }
  | _ => none }
def blocksPlainRow : OpenClaim := { program := "ytjapjfcennemeaa", sum := "ad608e5b7c654e4259180ed1f33a5558dd08cdc170ea694da90212e324eb1d43", func := "windowpane/windowpanelaw22.BlocksPlain", spec := "blocksPlain", apart := false }
def BlocksPlainSaid : Prop := blocksPlainRow.holds Try.pinned (OpenSpec.ofChange blocksPlainSpec)

/-- ITS FALSE NEIGHBOUR: 'it returns false'. Refute it at one input. -/
def blocksPlainWrong : ChangeSpec := { name := "blocksPlain", fn := fun _ => fun
  | [d1, d2, d3] => { results := [.lit (.bool false)], args := [d1, d2, d3] }
  | _ => none }
def BlocksPlainWrongFalsely : Prop := blocksPlainRow.holds Try.pinned (OpenSpec.ofChange blocksPlainWrong)

/-- 'windowpanelaw22.BlocksExpire': WHATEVER THE INPUT: true; the input reads as it did. -/
def blocksExpireSpec : ChangeSpec := { name := "blocksExpire", fn := fun _ => fun
  | [d1, d2] => { results := [.lit (.bool true)], args := [d1, d2] }
  | _ => none }
def blocksExpireRow : OpenClaim := { program := "ytjapjfcennemeaa", sum := "ad608e5b7c654e4259180ed1f33a5558dd08cdc170ea694da90212e324eb1d43", func := "windowpane/windowpanelaw22.BlocksExpire", spec := "blocksExpire", apart := false }
def BlocksExpireSaid : Prop := blocksExpireRow.holds Try.pinned (OpenSpec.ofChange blocksExpireSpec)

/-- ITS FALSE NEIGHBOUR: 'it returns false'. Refute it at one input. -/
def blocksExpireWrong : ChangeSpec := { name := "blocksExpire", fn := fun _ => fun
  | [d1, d2] => { results := [.lit (.bool false)], args := [d1, d2] }
  | _ => none }
def BlocksExpireWrongFalsely : Prop := blocksExpireRow.holds Try.pinned (OpenSpec.ofChange blocksExpireWrong)

/-- 'windowpanelaw22.BlocksAsks': WHATEVER THE INPUT: true; the input reads as it did. -/
def blocksAsksSpec : ChangeSpec := { name := "blocksAsks", fn := fun _ => fun
  | [d1, d2, d3, d4] => { results := [.lit (.bool true)], args := [d1, d2, d3, d4] }
  | _ => none }
def blocksAsksRow : OpenClaim := { program := "ytjapjfcennemeaa", sum := "ad608e5b7c654e4259180ed1f33a5558dd08cdc170ea694da90212e324eb1d43", func := "windowpane/windowpanelaw22.BlocksAsks", spec := "blocksAsks", inPlace := ["math/bits.Sub64"], apart := false }
def BlocksAsksSaid : Prop := blocksAsksRow.holds Try.pinned (OpenSpec.ofChange blocksAsksSpec)

/-- ITS FALSE NEIGHBOUR: 'it returns false'. Refute it at one input. -/
def blocksAsksWrong : ChangeSpec := { name := "blocksAsks", fn := fun _ => fun
  | [d1, d2, d3, d4] => { results := [.lit (.bool false)], args := [d1, d2, d3, d4] }
  | _ => none }
def BlocksAsksWrongFalsely : Prop := blocksAsksRow.holds Try.pinned (OpenSpec.ofChange blocksAsksWrong)

/-- 'windowpanelaw22.BlocksTruth': WHATEVER THE INPUT: true; the input reads as it did. -/
def blocksTruthSpec : ChangeSpec := { name := "blocksTruth", fn := fun _ => fun
  | [d1, d2, d3, d4, d5, d6, d7] => { results := [.lit (.bool true)], args := [d1, d2, d3, d4, d5, d6, d7] }
  | _ => none }
def blocksTruthRow : OpenClaim := { program := "ytjapjfcennemeaa", sum := "ad608e5b7c654e4259180ed1f33a5558dd08cdc170ea694da90212e324eb1d43", func := "windowpane/windowpanelaw22.BlocksTruth", spec := "blocksTruth", inPlace := ["math/bits.Sub64"], apart := false }
def BlocksTruthSaid : Prop := blocksTruthRow.holds Try.pinned (OpenSpec.ofChange blocksTruthSpec)

/-- ITS FALSE NEIGHBOUR: 'it returns false'. Refute it at one input. -/
def blocksTruthWrong : ChangeSpec := { name := "blocksTruth", fn := fun _ => fun
  | [d1, d2, d3, d4, d5, d6, d7] => { results := [.lit (.bool false)], args := [d1, d2, d3, d4, d5, d6, d7] }
  | _ => none }
def BlocksTruthWrongFalsely : Prop := blocksTruthRow.holds Try.pinned (OpenSpec.ofChange blocksTruthWrong)

/-- 'windowpanelaw23.QuantileNew': WHATEVER THE INPUT: true; the input reads as it did. -/
def quantileNewSpec : ChangeSpec := { name := "quantileNew", fn := fun _ => fun
  | [d1, d2, d3, d4] => { results := [.lit (.bool true)], args := [d1, d2, d3, d4] }
  | _ => none }
def quantileNewRow : OpenClaim := { program := "ytjapjfcennemeaa", sum := "ad608e5b7c654e4259180ed1f33a5558dd08cdc170ea694da90212e324eb1d43", func := "windowpane/windowpanelaw23.QuantileNew", spec := "quantileNew", inPlace := ["math/bits.Sub64"], apart := false }
def QuantileNewSaid : Prop := quantileNewRow.holds Try.pinned (OpenSpec.ofChange quantileNewSpec)

/-- ITS FALSE NEIGHBOUR: 'it returns false'. Refute it at one input. -/
def quantileNewWrong : ChangeSpec := { name := "quantileNew", fn := fun _ => fun
  | [d1, d2, d3, d4] => { results := [.lit (.bool false)], args := [d1, d2, d3, d4] }
  | _ => none }
def QuantileNewWrongFalsely : Prop := quantileNewRow.holds Try.pinned (OpenSpec.ofChange quantileNewWrong)

/-- 'windowpanelaw23.QuantileStates': WHATEVER THE INPUT: true; the input reads as it did. -/
def quantileStatesSpec : ChangeSpec := { name := "quantileStates", fn := fun _ => fun
  | [d1, d2, d3] => { results := [.lit (.bool true)], args := [d1, d2, d3] }
  | _ => none }
def quantileStatesRow : OpenClaim := { program := "ytjapjfcennemeaa", sum := "ad608e5b7c654e4259180ed1f33a5558dd08cdc170ea694da90212e324eb1d43", func := "windowpane/windowpanelaw23.QuantileStates", spec := "quantileStates", inPlace := ["math/bits.Sub64"], apart := false }
def QuantileStatesSaid : Prop := quantileStatesRow.holds Try.pinned (OpenSpec.ofChange quantileStatesSpec)

/-- ITS FALSE NEIGHBOUR: 'it returns false'. Refute it at one input. -/
def quantileStatesWrong : ChangeSpec := { name := "quantileStates", fn := fun _ => fun
  | [d1, d2, d3] => { results := [.lit (.bool false)], args := [d1, d2, d3] }
  | _ => none }
def QuantileStatesWrongFalsely : Prop := quantileStatesRow.holds Try.pinned (OpenSpec.ofChange quantileStatesWrong)

/-- 'windowpanelaw23.QuantileValues': WHATEVER THE INPUT: true; the input reads as it did. -/
def quantileValuesSpec : ChangeSpec := { name := "quantileValues", fn := fun _ => fun
  | [d1, d2, d3, d4, d5, d6, d7] => { results := [.lit (.bool true)], args := [d1, d2, d3, d4, d5, d6, d7] }
  | _ => none }
def quantileValuesRow : OpenClaim := { program := "ytjapjfcennemeaa", sum := "ad608e5b7c654e4259180ed1f33a5558dd08cdc170ea694da90212e324eb1d43", func := "windowpane/windowpanelaw23.QuantileValues", spec := "quantileValues", inPlace := ["math/bits.Sub64"], apart := false }
def QuantileValuesSaid : Prop := quantileValuesRow.holds Try.pinned (OpenSpec.ofChange quantileValuesSpec)

/-- ITS FALSE NEIGHBOUR: 'it returns false'. Refute it at one input. -/
def quantileValuesWrong : ChangeSpec := { name := "quantileValues", fn := fun _ => fun
  | [d1, d2, d3, d4, d5, d6, d7] => { results := [.lit (.bool false)], args := [d1, d2, d3, d4, d5, d6, d7] }
  | _ => none }
def QuantileValuesWrongFalsely : Prop := quantileValuesRow.holds Try.pinned (OpenSpec.ofChange quantileValuesWrong)

/-- 'windowpanelaw23.QuantileRanks': WHATEVER THE INPUT: true; the input reads as it did. -/
def quantileRanksSpec : ChangeSpec := { name := "quantileRanks", fn := fun _ => fun
  | [d1, d2, d3, d4, d5, d6] => { results := [.lit (.bool true)], args := [d1, d2, d3, d4, d5, d6] }
  | _ => none }
def quantileRanksRow : OpenClaim := { program := "ytjapjfcennemeaa", sum := "ad608e5b7c654e4259180ed1f33a5558dd08cdc170ea694da90212e324eb1d43", func := "windowpane/windowpanelaw23.QuantileRanks", spec := "quantileRanks", inPlace := ["math/bits.Sub64", "math/bits.Add64"], apart := false }
def QuantileRanksSaid : Prop := quantileRanksRow.holds Try.pinned (OpenSpec.ofChange quantileRanksSpec)

/-- ITS FALSE NEIGHBOUR: 'it returns false'. Refute it at one input. -/
def quantileRanksWrong : ChangeSpec := { name := "quantileRanks", fn := fun _ => fun
  | [d1, d2, d3, d4, d5, d6] => { results := [.lit (.bool false)], args := [d1, d2, d3, d4, d5, d6] }
  | _ => none }
def QuantileRanksWrongFalsely : Prop := quantileRanksRow.holds Try.pinned (OpenSpec.ofChange quantileRanksWrong)

/- THE SECOND FORM. 'bulk': how many values and letters a reading holds, each counted each time it is reached (what is shared counts as often as it is met; a slice's spare places count too). A statement '..UptoSaid' is the law's where the arguments, and the package variables that the reading takes, are together of bulk at most 1048576: NARROWER than '..Said'. Prove '..Said' where nothing that the law and all that it calls make is longer than what came in: it says more and counts as full. Else prove '..UptoSaid'. A law counts once. -/
mutual
def uptoBulk {H : Type} : DataW H → Nat
  | .lit (.string bytes) => bytes.length + 1
  | .lit _ => 1
  | .nil => 1
  | .ptr d => uptoBulk d + 1
  | .slice elems spare => uptoBulkAll elems + uptoBulkAll spare + 1
  | .agg parts => uptoBulkAll parts + 1
  | .iface _ d => uptoBulk d + 1
  | .map entries => uptoBulkEntries entries + 1
  | .held _ => 1
def uptoBulkAll {H : Type} : List (DataW H) → Nat
  | [] => 0
  | d :: r => uptoBulk d + uptoBulkAll r
def uptoBulkEntries {H : Type} : List (Lit × DataW H) → Nat
  | [] => 0
  | x :: r => uptoBulkEntry x + uptoBulkEntries r
def uptoBulkEntry {H : Type} : Lit × DataW H → Nat
  | (.string bytes, d) => bytes.length + uptoBulk d + 1
  | (_, d) => uptoBulk d + 1
 end
def uptoSmall : (H : Type) → List (DataW H) → Bool := fun _ ds => decide (uptoBulkAll ds ≤ 1048576)
def OpenSpec.upto (s : _root_.Go.ChangeSpec) : _root_.Go.OpenSpec := { _root_.Go.OpenSpec.ofChange s with cond := some uptoSmall }

/-- 'windowpanelaw22.BlocksValid', WHERE WHAT IT READS IS OF BULK AT MOST 1048576: true; the input reads as it did. -/
def blocksValidUptoRow : OpenClaim := { program := "ytjapjfcennemeaa", sum := "ad608e5b7c654e4259180ed1f33a5558dd08cdc170ea694da90212e324eb1d43", func := "windowpane/windowpanelaw22.BlocksValid", spec := "blocksValid", apart := false, narrowed := true }
def BlocksValidUptoSaid : Prop := blocksValidUptoRow.holds Try.pinned (OpenSpec.upto blocksValidSpec)

/-- 'windowpanelaw22.BlocksInsert', WHERE WHAT IT READS IS OF BULK AT MOST 1048576: true; the input reads as it did. -/
def blocksInsertUptoRow : OpenClaim := { program := "ytjapjfcennemeaa", sum := "ad608e5b7c654e4259180ed1f33a5558dd08cdc170ea694da90212e324eb1d43", func := "windowpane/windowpanelaw22.BlocksInsert", spec := "blocksInsert", apart := false, narrowed := true }
def BlocksInsertUptoSaid : Prop := blocksInsertUptoRow.holds Try.pinned (OpenSpec.upto blocksInsertSpec)

/-- 'windowpanelaw22.BlocksPlain', WHERE WHAT IT READS IS OF BULK AT MOST 1048576: true; the input reads as it did. -/
def blocksPlainUptoRow : OpenClaim := { program := "ytjapjfcennemeaa", sum := "ad608e5b7c654e4259180ed1f33a5558dd08cdc170ea694da90212e324eb1d43", func := "windowpane/windowpanelaw22.BlocksPlain", spec := "blocksPlain", apart := false, narrowed := true }
def BlocksPlainUptoSaid : Prop := blocksPlainUptoRow.holds Try.pinned (OpenSpec.upto blocksPlainSpec)

/-- 'windowpanelaw22.BlocksExpire', WHERE WHAT IT READS IS OF BULK AT MOST 1048576: true; the input reads as it did. -/
def blocksExpireUptoRow : OpenClaim := { program := "ytjapjfcennemeaa", sum := "ad608e5b7c654e4259180ed1f33a5558dd08cdc170ea694da90212e324eb1d43", func := "windowpane/windowpanelaw22.BlocksExpire", spec := "blocksExpire", apart := false, narrowed := true }
def BlocksExpireUptoSaid : Prop := blocksExpireUptoRow.holds Try.pinned (OpenSpec.upto blocksExpireSpec)

/-- 'windowpanelaw22.BlocksAsks', WHERE WHAT IT READS IS OF BULK AT MOST 1048576: true; the input reads as it did. -/
def blocksAsksUptoRow : OpenClaim := { program := "ytjapjfcennemeaa", sum := "ad608e5b7c654e4259180ed1f33a5558dd08cdc170ea694da90212e324eb1d43", func := "windowpane/windowpanelaw22.BlocksAsks", spec := "blocksAsks", inPlace := ["math/bits.Sub64"], apart := false, narrowed := true }
def BlocksAsksUptoSaid : Prop := blocksAsksUptoRow.holds Try.pinned (OpenSpec.upto blocksAsksSpec)

/-- 'windowpanelaw22.BlocksTruth', WHERE WHAT IT READS IS OF BULK AT MOST 1048576: true; the input reads as it did. -/
def blocksTruthUptoRow : OpenClaim := { program := "ytjapjfcennemeaa", sum := "ad608e5b7c654e4259180ed1f33a5558dd08cdc170ea694da90212e324eb1d43", func := "windowpane/windowpanelaw22.BlocksTruth", spec := "blocksTruth", inPlace := ["math/bits.Sub64"], apart := false, narrowed := true }
def BlocksTruthUptoSaid : Prop := blocksTruthUptoRow.holds Try.pinned (OpenSpec.upto blocksTruthSpec)

/-- 'windowpanelaw23.QuantileNew', WHERE WHAT IT READS IS OF BULK AT MOST 1048576: true; the input reads as it did. -/
def quantileNewUptoRow : OpenClaim := { program := "ytjapjfcennemeaa", sum := "ad608e5b7c654e4259180ed1f33a5558dd08cdc170ea694da90212e324eb1d43", func := "windowpane/windowpanelaw23.QuantileNew", spec := "quantileNew", inPlace := ["math/bits.Sub64"], apart := false, narrowed := true }
def QuantileNewUptoSaid : Prop := quantileNewUptoRow.holds Try.pinned (OpenSpec.upto quantileNewSpec)

/-- 'windowpanelaw23.QuantileStates', WHERE WHAT IT READS IS OF BULK AT MOST 1048576: true; the input reads as it did. -/
def quantileStatesUptoRow : OpenClaim := { program := "ytjapjfcennemeaa", sum := "ad608e5b7c654e4259180ed1f33a5558dd08cdc170ea694da90212e324eb1d43", func := "windowpane/windowpanelaw23.QuantileStates", spec := "quantileStates", inPlace := ["math/bits.Sub64"], apart := false, narrowed := true }
def QuantileStatesUptoSaid : Prop := quantileStatesUptoRow.holds Try.pinned (OpenSpec.upto quantileStatesSpec)

/-- 'windowpanelaw23.QuantileValues', WHERE WHAT IT READS IS OF BULK AT MOST 1048576: true; the input reads as it did. -/
def quantileValuesUptoRow : OpenClaim := { program := "ytjapjfcennemeaa", sum := "ad608e5b7c654e4259180ed1f33a5558dd08cdc170ea694da90212e324eb1d43", func := "windowpane/windowpanelaw23.QuantileValues", spec := "quantileValues", inPlace := ["math/bits.Sub64"], apart := false, narrowed := true }
def QuantileValuesUptoSaid : Prop := quantileValuesUptoRow.holds Try.pinned (OpenSpec.upto quantileValuesSpec)

/-- 'windowpanelaw23.QuantileRanks', WHERE WHAT IT READS IS OF BULK AT MOST 1048576: true; the input reads as it did. -/
def quantileRanksUptoRow : OpenClaim := { program := "ytjapjfcennemeaa", sum := "ad608e5b7c654e4259180ed1f33a5558dd08cdc170ea694da90212e324eb1d43", func := "windowpane/windowpanelaw23.QuantileRanks", spec := "quantileRanks", inPlace := ["math/bits.Sub64", "math/bits.Add64"], apart := false, narrowed := true }
def QuantileRanksUptoSaid : Prop := quantileRanksUptoRow.holds Try.pinned (OpenSpec.upto quantileRanksSpec)

end Rows
end Go.Proofs.Ytjapjfcennemeaa
