/- Steady4; RBox: texts in one. -/
import Derived.Test.YtjapjfcennemeaaMgSteady3
import Derived.Test.YtjapjfcennemeaaMgMrgV
import Derived.Test.YtjapjfcennemeaaMgBox3
import Derived.Test.YtjapjfcennemeaaMgExpire
import Derived.OneCell
set_option linter.unusedVariables false
set_option linter.unusedSimpArgs false
/- Reading operations first, in the middle of a region. -/
namespace Go.Proofs.Ytjapjfcennemeaa.gro
open Go.RowKit
set_option linter.unusedVariables false
variable {P : Program} {md : Region.Mode} {ops : Array Oper} {Q : Exit → Act → World → Prop} {S : World → Prop} {s : Nat}
theorem anyM_mid_all {a : Act} {w : World} {listed : Array Bool} {n : Nat} (ks : List Nat) (f : Nat) (hL : Lasts S) (hs : Region.noSelect ops = true) (hQ : ∀ c a (d : Tmp) v w, Q (.panic c) (Act.put a (some d) v) w → Q (.panic c) a w) (hk : ks.all (fun k => waits md ops s k) = true)
    (hl : ks.map (fun k => ops[k]?) = (pickA ops ks).map some) (ht : takeB md ops ks listed = true) (hd : dstB a.tmps.size (pickA ops ks) = true) (hn : n = ks.length + f) (hsl : listed.getD s true = false) (hS : S w)
    (hA : ∃ A, (∀ w0, S w0 → wpQuiet P ops (fun w' => ∃ x : Ext w0, w' = grown w0 x) (fun a' => a' = A) (pickA ops ks) a) ∧ anyM P md ops Q S s f (listedBy ks listed) A w) : anyM P md ops Q S s n listed a w := by
  obtain ⟨A, hq, h⟩ := hA
  rw [hn]
  exact anyM_lex hL hs hQ ks _ listed a w (fun k hk' => List.all_eq_true.1 hk k hk') hl ht hd hq hsl hS h
end Go.Proofs.Ytjapjfcennemeaa.gro

/- Words for boxes of three cells, for summaries that come back. -/
namespace Go.Proofs.Ytjapjfcennemeaa.rnk
open Go.RowKit Go.Proofs.Ytjapjfcennemeaa.mem Go.Proofs.Ytjapjfcennemeaa.gro
set_option linter.unusedVariables false
theorem entry_info : (Try.prog.info? 94).map (fun i => (i.zero, i.size, i.bytes)) = some (some (.agg #[.int .i64 0, .int .i64 0, .int .i64 0]), 3, 24) := by kernel_rfl
theorem ERead.below {w w' : World} {B n : Nat} {A : Option Addr} {xs : L3} (h : ERead w B A n xs) (hb : Below B w w') : ERead w' B A n xs := mem.Reads.below h hb
theorem Reads.far {W : World} {B n size : Nat} {A : Option Addr} {ys : List Value} (h : Reads W B size A n ys) (p : Addr) (hf : 0 < n → ∀ ad, A = some ad → ad.block ≠ p.block) (u : Value) : Reads (W.setCell p u) B size A n ys := by
  obtain ⟨h1, h2⟩ := h
  refine ⟨h1, fun hn => ?_⟩
  obtain ⟨ad, e, hb, hc⟩ := h2 hn
  refine ⟨ad, e, hb, fun j v hv => ?_⟩
  rw [← hc j v hv]
  exact World.cell?_of_block (Below.heap_setCell W p u _ (by rw [block_of_add]; exact hf hn ad e))
theorem Reads.blk {W : World} {B n size : Nat} {A : Option Addr} {ys : List Value} (h : Reads W B size A n ys) : 0 < n → ∀ ad, A = some ad → ad.block < B := fun hn ad e => by
  obtain ⟨ad', e', hb, _⟩ := h.2 hn
  rw [e] at e'; injection e' with e'; subst e'; exact hb
theorem Bx.app3 {W w1 : World} {L : List (Nat × TypeId × Array Value)} {row : Option Nat} (h : Bx W L) (hg : W.grownBy w1 row) (hd : ∀ p ∈ L, some p.1 ≠ row) : Bx w1 L := fun p hp => (h p hp).grown hg (hd p hp)
theorem Bx.put3 {W : World} {L : List (Nat × TypeId × Array Value)} {g : Nat} {t : TypeId} {x0 x1 x2 u0 u1 u2 : Value} (h : Bx W ((g, t, #[x0, x1, x2]) :: L)) (hd : ∀ q ∈ L, q.1 ≠ g) :
    Bx (((W.setCell ⟨g, 0, none⟩ u0).setCell ⟨g, 1, none⟩ u1).setCell ⟨g, 2, none⟩ u2) ((g, t, #[u0, u1, u2]) :: L) := by
  have := ((h.puti hd 0 u0).puti hd 1 u1).puti hd 2 u2
  simpa using this
theorem own_put3 {W : World} {base size n g : Nat} {e : TypeId} {v : Value} {xs : List Value} (h : W.ownsRow base e size v n xs) (hg : v.ownBlock ≠ some g) (u0 u1 u2 : Value) : (((W.setCell ⟨g, 0, none⟩ u0).setCell ⟨g, 1, none⟩ u1).setCell ⟨g, 2, none⟩ u2).ownsRow base e size v n xs :=
  ownsRow_setCell_other (ownsRow_setCell_other (ownsRow_setCell_other h (a := ⟨g, 0, none⟩) hg u0) (a := ⟨g, 1, none⟩) hg u1) (a := ⟨g, 2, none⟩) hg u2
/-- The cells of an entry, in all worlds that only grew. -/
theorem ERead.cells {w : World} {B n : Nat} {A : Option Addr} {xs : L3} (h : ERead w B A n xs) {i : Nat} (hi : i < n) : ∃ ad, A = some ad ∧ ad.block < B ∧ Hid (∀ W, Below B w W → W.cell? (ad.add (i * 3)) = some (.int .i64 (at3 xs i).1) ∧ W.cell? ⟨(ad.add (i * 3)).block, (ad.add (i * 3)).off + 1, none⟩ = some (.int .i64 (at3 xs i).2.1) ∧ W.cell? ⟨(ad.add (i * 3)).block, (ad.add (i * 3)).off + 2, none⟩ = some (.int .i64 (at3 xs i).2.2)) := by
  obtain ⟨ad, rfl, hb, _⟩ := ERead.at_ h hi
  refine ⟨ad, rfl, hb, fun W hW => ?_⟩
  obtain ⟨ad', e, _, h1, h2, h3⟩ := ERead.at_ (ERead.below h hW) hi
  injection e with e
  subst e
  exact ⟨h1, h2, h3⟩
/-- A summary that comes back. -/
def NewR (N : Int) (es : L3) (w : World) (e : Ending) (w' : World) : Prop :=
  ∃ A m c, e = .returned (.agg #[.int .i64 N, .slice A m c]) ∧ m ≤ c ∧ c ≤ maxLen ∧ ERead w' w'.heap.size A m es ∧ Below w.heap.size w w'
/-- .. in a new row. -/
def NewRF (N : Int) (es : L3) (w : World) (e : Ending) (w' : World) : Prop :=
  ∃ A m c, e = .returned (.agg #[.int .i64 N, .slice A m c]) ∧ m ≤ c ∧ c ≤ maxLen ∧ ERead w' w'.heap.size A m es ∧ Below w.heap.size w w' ∧ ∀ ad, A = some ad → w.heap.size ≤ ad.block
/-- .. with an error. -/
def NewRE (p : Int × L3) (er : Int) (w : World) (e : Ending) (w' : World) : Prop :=
  ∃ A m c, e = .returned (.tuple #[.agg #[.int .i64 p.1, .slice A m c], .int .i64 er]) ∧ m ≤ c ∧ c ≤ maxLen ∧ ERead w' w'.heap.size A m p.2 ∧ Below w.heap.size w w'
theorem put_out {w W : World} {g n : Nat} {A : Option Addr} {es : L3} (BB : Below w.heap.size w W) (hg : w.heap.size ≤ g) (HF : ERead W W.heap.size A n es) (hd : 0 < n → ∀ ad, A = some ad → ad.block ≠ g) (x y : Value) :
    ERead ((W.setCell ⟨g, 0, none⟩ x).setCell ⟨g, 1, none⟩ y) ((W.setCell ⟨g, 0, none⟩ x).setCell ⟨g, 1, none⟩ y).heap.size A n es ∧ Below w.heap.size w ((W.setCell ⟨g, 0, none⟩ x).setCell ⟨g, 1, none⟩ y) :=
  ⟨Reads.more (Reads.far (Reads.far HF ⟨g, 0, none⟩ hd x) ⟨g, 1, none⟩ hd y) (by simp [World.setCell]), (BB.setCell (p := ⟨g, 0, none⟩) hg _).setCell (p := ⟨g, 1, none⟩) hg _⟩
end Go.Proofs.Ytjapjfcennemeaa.rnk
