/- Meet; MeetR: texts in one. -/
import Derived.Test.YtkpcljiipdbmhaaMgOrd
import Derived.Test.YtkpcljiipdbmhaaBox3
/- Contracts of Meet of bounds in the code, of most and least. -/
namespace Go.Proofs.Ytkpcljiipdbmhaa.wid
open Go.RowKit Go.Proofs.Ytkpcljiipdbmhaa.mem Go.Proofs.Ytkpcljiipdbmhaa.gro
set_option linter.unusedVariables false
set_option linter.unusedSimpArgs false
def mosN (n d m e : Int) : Int := pk (mosP n d m e) n m
def mosD (n d m e : Int) : Int := pk (mosP n d m e) d e
def lesN (n d m e : Int) : Int := pk (lesP n d m e) n m
def lesD (n d m e : Int) : Int := pk (lesP n d m e) d e
theorem pk_bd {b : Bool} {x y : Int} (hx : I64 x) (hy : I64 y) : I64 (pk b x y) := by cases b <;> assumption
def meetOk (a0 a1 a2 a3 a4 a5 b0 b1 b2 b3 b4 b5 : Int) : Bool := validB a0 a1 a2 a3 a4 a5 && validB b0 b1 b2 b3 b4 b5 && decide (cmpQ (mosN a0 a1 b0 b1) (mosD a0 a1 b0 b1) (lesN a4 a5 b4 b5) (lesD a4 a5 b4 b5) ≤ 0)
end Go.Proofs.Ytkpcljiipdbmhaa.wid

/- Contract of Meet of bounds in the reference. -/
namespace Go.Proofs.Ytkpcljiipdbmhaa.wid
open Go.RowKit Go.Proofs.Ytkpcljiipdbmhaa.mem Go.Proofs.Ytkpcljiipdbmhaa.gro
set_option linter.unusedVariables false
set_option linter.unusedSimpArgs false
theorem pk_not {b : Bool} {x y : Int} : pk (!b) x y = pk b y x := by cases b <;> rfl
end Go.Proofs.Ytkpcljiipdbmhaa.wid
