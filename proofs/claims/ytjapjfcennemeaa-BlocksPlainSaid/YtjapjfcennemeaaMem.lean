/- Words for memory: a slice that reads as a list of cells; small facts on worlds. No condition. -/
import Derived.Test.YtjapjfcennemeaaRows
import Derived.WalkKit
import Derived.ProofKit
import Derived.Below
import Derived.Laws.OwnMore
import Derived.Deep.Draws
import Derived.Deep.AppendLies
import Derived.Lib.Hide
namespace Go.Proofs.Ytjapjfcennemeaa.mem
open Go.RowKit

theorem block_of_add (a : Addr) (n : Nat) : (a.add n).block = a.block := by unfold Addr.add; split <;> rfl
theorem add_of_add (a : Addr) (i j : Nat) : (a.add i).add j = a.add (i + j) := by
  unfold Addr.add
  by_cases hi : i = 0 <;> by_cases hj : j = 0 <;> simp [hi, hj, Nat.add_assoc]

theorem add_one_eq (a : Addr) : a.add 1 = ⟨a.block, a.off + 1, none⟩ := by simp [Addr.add]
theorem ret_bool {a b : Bool} (h : a = b) : Ending.returned (.bool a) = .returned (.bool b) := by rw [h]
theorem ret_int {k : IntKind} {a b : Int} (h : a = b) : Ending.returned (.int k a) = .returned (.int k b) := by rw [h]

theorem below_drewN {B : Nat} {a w : World} (h : Below B a w) (n : Nat) : Below B a (w.drewN n) := ⟨h.os, h.tape, h.output, h.size, h.block⟩
theorem below_quiet (B : Nat) (w : World) (n : Nat) : Below B w (w.drewN n) := ⟨rfl, rfl, rfl, Nat.le_refl _, fun _ _ => rfl⟩

/-- A cell that was there stays behind a new block. -/
theorem cell_box {w : World} {p : Addr} {u : Value} (h : w.cell? p = some u) (o : Obj) : (w.alloc o).cell? p = some u := by
  rw [World.cell?_alloc_lt w o p (World.block_lt_of_cell? _ _ h)]; exact h
theorem frozen_box {w : World} {p : Addr} {b : Bool} (hp : p.block < w.heap.size) (h : w.frozen? p = b) (o : Obj) : (w.alloc o).frozen? p = b := by
  rw [← h]; exact World.frozen?_of_block (Below.heap_alloc w o _ hp)

theorem quiet_left {P : Program} {f : FuncId} {args : Array Value} {w : World} {n : Nat} {v : Value}
    (h : Calls P f args (w.drewN n) fun e w' => e = .returned v ∧ w.drewN n = w') : Calls P f args (w.drewN n) fun e w'' => e = .returned v ∧ ∃ m, w'' = w.drewN m :=
  h.mono fun _ _ ⟨he, hm⟩ => ⟨he, n, hm.symm⟩
theorem quiet_add_left {P : Program} {f : FuncId} {args : Array Value} {w : World} {a n : Nat} {v : Value}
    (h : Calls P f args (w.drewN (a + n)) fun e w' => e = .returned v ∧ w.drewN (a + n) = w') :
    Calls P f args (w.drewN (a + n)) fun e w'' => e = .returned v ∧ ∃ m, w'' = w.drewN (a + m) :=
  h.mono fun _ _ ⟨he, hm⟩ => ⟨he, n, hm.symm⟩
theorem enters_of {P : Program} {f : FuncId} {fn : Func} {c : Code} (hf : P.funcs[f]? = some fn) (hname : (fn.name == "runtime.NumGoroutine") = false) (hb : fn.body = some c) : ∀ args w, (callFunc f args).run P w = .ok (.enter f args) w := by
  intro args w
  have h1 : fn.name ≠ "runtime.NumGoroutine" := by simpa using hname
  simp [callFunc, hf, h1, hb, mark]

/-- The slice value (A, n, _) holds the cells xs ('size' cells an element) and lies below block B. -/
def Reads (w : World) (B size : Nat) (A : Option Addr) (n : Nat) (xs : List Value) : Prop :=
  xs.length = n * size ∧ (0 < n → ∃ ad, A = some ad ∧ ad.block < B ∧ ∀ j u, xs[j]? = some u → w.cell? (ad.add j) = some u)

section
variable {w w' : World} {B B' size n : Nat} {A : Option Addr} {xs : List Value}
theorem Reads.none_ : Reads w B size A 0 [] := ⟨by simp, fun h => absurd h (by omega)⟩
theorem Reads.len_ (h : Reads w B size A n xs) : xs.length = n * size := h.1
theorem Reads.at1 {k : Nat} (h : Reads w B 1 A n xs) (hk : k < n) : ∃ ad u, A = some ad ∧ ad.block < B ∧ xs[k]? = some u ∧ w.cell? (ad.add k) = some u := by
  obtain ⟨ad, e, hb, hc⟩ := h.2 (by omega)
  have hl : k < xs.length := by have := h.1; omega
  exact ⟨ad, xs[k], e, hb, List.getElem?_eq_getElem hl, hc k _ (List.getElem?_eq_getElem hl)⟩
theorem Reads.keep (h : Reads w B size A n xs) (hk : ∀ p : Addr, p.block < B → w'.cell? p = w.cell? p) : Reads w' B size A n xs :=
  ⟨h.1, fun hn => by
    obtain ⟨ad, e, hb, hc⟩ := h.2 hn
    exact ⟨ad, e, hb, fun j u hu => (hk _ (by rw [block_of_add]; exact hb)).trans (hc j u hu)⟩⟩
theorem Reads.more (h : Reads w B size A n xs) (hB : B ≤ B') : Reads w B' size A n xs :=
  ⟨h.1, fun hn => by
    obtain ⟨ad, e, hb, hc⟩ := h.2 hn
    exact ⟨ad, e, by omega, hc⟩⟩
theorem Reads.below (h : Reads w B size A n xs) (hb : Below B w w') : Reads w' B size A n xs := h.keep fun _ hp => hb.cell hp
theorem Reads.drew (h : Reads w B size A n xs) : Reads w.drew B size A n xs := h
theorem Reads.drewN (h : Reads w B size A n xs) (k : Nat) : Reads (w.drewN k) B size A n xs := h
theorem Reads.alloc (h : Reads w B size A n xs) (hB : B ≤ w.heap.size) (o : Obj) : Reads (w.alloc o) B size A n xs := h.keep fun p hp => World.cell?_alloc_lt w o p (by omega)
theorem Reads.setCell (h : Reads w B size A n xs) {p : Addr} (hB : B ≤ p.block) (u : Value) : Reads (w.setCell p u) B size A n xs :=
  h.keep fun q hq => World.cell?_setCell_other w p q u (fun e => by subst e; omega)
theorem Reads.grown (h : Reads w B size A n xs) {row : Option Nat} (hg : w.grownBy w' row) (hB : B ≤ w.heap.size) (hr : ∀ g, row = some g → B ≤ g) : Reads w' B size A n xs :=
  h.keep fun p hp => World.cell?_of_block (hg.block p.block (by omega) (fun e => by have := hr _ e.symm; omega))
theorem Reads.of_own {base : Nat} {e : TypeId} {c : Nat} (h : w.ownsRow base e size (.slice A n c) n xs) : Reads w w.heap.size size A n xs := by
  refine ⟨h.1, fun hn => ?_⟩
  obtain ⟨g, cap, hv, _, hlt⟩ := h.form hn
  have hA : A = some ⟨g, 0, none⟩ := by injection hv
  subst hA
  exact ⟨_, rfl, hlt, h.cells (g := g) rfl⟩
theorem reads_row {k : IntKind} {a : Option Addr} {len cap : Nat} {zs : List Int}
    (h : (a = none ∧ len = 0 ∧ cap = 0 ∧ zs = []) ∨ ∃ x, a = some x ∧ len ≤ cap ∧ cap ≤ maxLen ∧ zs.length = cap ∧ (∀ i, i < zs.length → w.cell? (x.add i) = some (.int k (zs.getD i 0))) ∧ ∀ n ∈ zs, (Lit.int k n).wf = true) :
    Reads w w.heap.size 1 a len ((zs.take len).map (Value.int k)) ∧ (zs.take len).length = len := by
  rcases h with ⟨rfl, rfl, rfl, rfl⟩ | ⟨x, rfl, hl, hm, hlen, hc, _⟩
  · exact ⟨.none_, rfl⟩
  · have hL : (zs.take len).length = len := by simp; omega
    refine ⟨⟨by simp; omega, fun hn => ⟨x, rfl, ?_, fun j u hu => ?_⟩⟩, hL⟩
    · have := World.block_lt_of_cell? _ _ (hc 0 (by omega))
      rwa [block_of_add] at this
    · have hj : j < len := by
        rcases Nat.lt_or_ge j len with h | h
        · exact h
        · rw [List.getElem?_eq_none (by simp; omega)] at hu; cases hu
      rw [List.getElem?_map, List.getElem?_take_of_lt hj] at hu
      have hjz : j < zs.length := by omega
      rw [List.getElem?_eq_getElem hjz] at hu
      rw [hc j hjz, List.getD_eq_getElem?_getD, List.getElem?_eq_getElem hjz]
      simpa using hu
theorem Reads.cut (h : Reads w B size A n xs) {k cap : Nat} (hk : k ≤ n) (hc : n ≤ cap) :
    Reads w B size (if cap = k then A else A.map (·.add (k * size))) (n - k) (xs.drop (k * size)) := by
  refine ⟨by rw [List.length_drop, h.1, Nat.sub_mul], fun hn => ?_⟩
  obtain ⟨ad, rfl, hb, hcell⟩ := h.2 (by omega)
  rw [if_neg (by omega)]
  refine ⟨ad.add (k * size), rfl, by rw [block_of_add]; exact hb, fun j u hu => ?_⟩
  rw [add_of_add]
  exact hcell _ u (by rw [← hu, List.getElem?_drop])
theorem Reads.front (h : Reads w B size A n xs) {k : Nat} (hk : k ≤ n) : Reads w B size A k (xs.take (k * size)) := by
  refine ⟨by rw [List.length_take, h.1]; exact Nat.min_eq_left (Nat.mul_le_mul_right _ hk), fun hn => ?_⟩
  obtain ⟨ad, rfl, hb, hcell⟩ := h.2 (by omega)
  refine ⟨ad, rfl, hb, fun j u hu => hcell j u ?_⟩
  rw [List.getElem?_take] at hu
  split at hu
  · exact hu
  · cases hu

/-- The cells of a list of pairs of integers: two an element. -/
def pc (xs : List (Int × Int)) : List Value := xs.flatMap fun p => [.int .i64 p.1, .int .i64 p.2]
theorem pc_nil : pc [] = [] := rfl
theorem pc_cons (p : Int × Int) (xs : List (Int × Int)) : pc (p :: xs) = .int .i64 p.1 :: .int .i64 p.2 :: pc xs := rfl
theorem pc_append (xs ys : List (Int × Int)) : pc (xs ++ ys) = pc xs ++ pc ys := by simp [pc]
theorem pc_length (xs : List (Int × Int)) : (pc xs).length = xs.length * 2 := by
  induction xs with
  | nil => rfl
  | cons p xs ih => rw [pc_cons]; simp [ih]; omega
theorem pc_drop (xs : List (Int × Int)) (k : Nat) : pc (xs.drop k) = (pc xs).drop (k * 2) := by
  induction xs generalizing k with
  | nil => simp [pc]
  | cons p xs ih =>
    cases k with
    | zero => simp
    | succ k => rw [List.drop_succ_cons, ih, show (k + 1) * 2 = k * 2 + 1 + 1 by omega, pc_cons, List.drop_succ_cons, List.drop_succ_cons]
theorem pc_take (xs : List (Int × Int)) (k : Nat) : pc (xs.take k) = (pc xs).take (k * 2) := by
  induction xs generalizing k with
  | nil => simp [pc]
  | cons p xs ih =>
    cases k with
    | zero => simp [pc]
    | succ k => rw [List.take_succ_cons, pc_cons, ih, show (k + 1) * 2 = k * 2 + 1 + 1 by omega, pc_cons, List.take_succ_cons, List.take_succ_cons]
theorem pc_get (xs : List (Int × Int)) (i : Nat) (hi : i < xs.length) : (pc xs)[i * 2]? = some (.int .i64 xs[i].1) ∧ (pc xs)[i * 2 + 1]? = some (.int .i64 xs[i].2) := by
  induction xs generalizing i with
  | nil => simp at hi
  | cons p xs ih =>
    cases i with
    | zero => simp [pc_cons]
    | succ i =>
      have := ih i (by simpa using hi)
      rw [show (i + 1) * 2 = i * 2 + 1 + 1 by omega, pc_cons]
      simpa using this
theorem pc_inj {xs ys : List (Int × Int)} (h : pc xs = pc ys) : xs = ys := by
  induction xs generalizing ys with
  | nil => cases ys with
    | nil => rfl
    | cons q ys => simp [pc] at h
  | cons p xs ih => cases ys with
    | nil => simp [pc] at h
    | cons q ys =>
      rw [pc_cons, pc_cons] at h
      simp only [List.cons.injEq, Value.int.injEq, true_and] at h
      obtain ⟨h1, h2, h3⟩ := h
      rw [ih h3, Prod.ext h1 h2]
theorem pc_oneCell (xs : List (Int × Int)) : ∀ u ∈ pc xs, u.oneCell' = true := by
  intro u hu
  simp only [pc, List.mem_flatMap] at hu
  obtain ⟨p, _, hp⟩ := hu
  simp at hp
  rcases hp with rfl | rfl <;> rfl
def PRead (w : World) (B : Nat) (A : Option Addr) (n : Nat) (xs : List (Int × Int)) : Prop := Reads w B 2 A n (pc xs)
theorem PRead.len {xs : List (Int × Int)} (h : PRead w B A n xs) : xs.length = n := by have := h.1; rw [pc_length] at this; omega
theorem PRead.at_ {xs : List (Int × Int)} (h : PRead w B A n xs) {i : Nat} (hi : i < n) :
    ∃ ad, A = some ad ∧ ad.block < B ∧ w.cell? (ad.add (i * 2)) = some (.int .i64 (xs[i]?.getD (0, 0)).1) ∧ w.cell? ⟨(ad.add (i * 2)).block, (ad.add (i * 2)).off + 1, none⟩ = some (.int .i64 (xs[i]?.getD (0, 0)).2) := by
  have hl := h.len
  have hi' : i < xs.length := by omega
  obtain ⟨ad, rfl, hb, hc⟩ := h.2 (by omega)
  obtain ⟨h1, h2⟩ := pc_get xs i hi'
  rw [List.getElem?_eq_getElem hi']
  exact ⟨ad, rfl, hb, hc _ _ h1, by rw [← add_one_eq, add_of_add]; exact hc _ _ h2⟩
theorem PRead.tail {xs : List (Int × Int)} {ad : Addr} (h : PRead w B (some ad) n xs) (hn : 0 < n) {c : Nat} (hc : n ≤ c) :
    PRead w B (if c = 1 then some ad else some ⟨ad.block, ad.off + 2, none⟩) (n - 1) (xs.drop 1) := by
  have := Reads.cut (cap := c) (k := 1) h hn hc
  rw [← pc_drop] at this
  have e : (some ad : Option Addr).map (fun x => Addr.add x (1 * 2)) = some ⟨ad.block, ad.off + 2, none⟩ := by simp [Addr.add]
  rw [e] at this
  exact this
theorem PRead.nil_ : PRead w B none 0 [] := Reads.none_
end
end Go.Proofs.Ytjapjfcennemeaa.mem
