/- Reading operations first, in the middle of a region. -/
import Derived.Test.YteajgmihhnghfaaSteady3
namespace Go.Proofs.Yteajgmihhnghfaa.gro
open Go.RowKit
set_option linter.unusedVariables false
variable {P : Program} {md : Region.Mode} {ops : Array Oper} {Q : Exit → Act → World → Prop} {S : World → Prop} {s : Nat}
theorem anyM_mid_all {a : Act} {w : World} {listed : Array Bool} {n : Nat} (ks : List Nat) (f : Nat) (hL : Lasts S) (hs : Region.noSelect ops = true) (hQ : ∀ c a (d : Tmp) v w, Q (.panic c) (Act.put a (some d) v) w → Q (.panic c) a w) (hk : ks.all (fun k => waits md ops s k) = true)
    (hl : ks.map (fun k => ops[k]?) = (pickA ops ks).map some) (ht : takeB md ops ks listed = true) (hd : dstB a.tmps.size (pickA ops ks) = true) (hn : n = ks.length + f) (hsl : listed.getD s true = false) (hS : S w)
    (hA : ∃ A, (∀ w0, S w0 → wpQuiet P ops (fun w' => ∃ x : Ext w0, w' = grown w0 x) (fun a' => a' = A) (pickA ops ks) a) ∧ anyM P md ops Q S s f (listedBy ks listed) A w) : anyM P md ops Q S s n listed a w := by
  obtain ⟨A, hq, h⟩ := hA
  rw [hn]
  exact anyM_lex hL hs hQ ks _ listed a w (fun k hk' => List.all_eq_true.1 hk k hk') hl ht hd hq hsl hS h
end Go.Proofs.Yteajgmihhnghfaa.gro
