/- An append onto a row of the call's own leaves what was there. -/
import Derived.Test.YteajgmihhnghfaaOwn
namespace Go.Proofs.Yteajgmihhnghfaa.mem
open Go.RowKit
theorem below_own {W w1 a : World} {B base : Nat} {e : TypeId} {size n : Nat} {v : Value} {xs : List Value} (hg : W.grownBy w1 v.ownBlock) (hown : W.ownsRow base e size v n xs) (hb : Below B a W) (hB : B ≤ base) (hW : B ≤ W.heap.size) : Below B a w1 :=
  hb.grown hg hW (fun k hk => Nat.le_trans hB (own_block_ge hown k hk))
theorem own_mono {w : World} {base base' : Nat} {e : TypeId} {size n : Nat} {v : Value} {xs : List Value} (h : w.ownsRow base e size v n xs) (hb : base' ≤ base) : w.ownsRow base' e size v n xs := by
  refine ⟨h.1, ?_⟩
  rcases h.2 with h2 | ⟨g, cap, cur, hv, hg, r⟩
  · exact .inl h2
  · exact .inr ⟨g, cap, cur, hv, Nat.le_trans hb hg, r⟩
end Go.Proofs.Yteajgmihhnghfaa.mem
