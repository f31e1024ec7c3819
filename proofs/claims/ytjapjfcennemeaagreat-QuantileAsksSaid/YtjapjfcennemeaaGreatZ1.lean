/- Mem, Tri: proved here in one text, no conditions beyond those that each theorem states. -/
import Derived.Test.YtjapjfcennemeaaGreatRows
import Derived.WalkKit
import Derived.ProofKit
import Derived.Below
import Derived.Laws.OwnMore
import Derived.Deep.Draws
import Derived.Deep.AppendLies
import Derived.Lib.Hide
set_option linter.unusedVariables false
set_option linter.unusedSimpArgs false
section
namespace Go.Proofs.YtjapjfcennemeaaGreat.mem
open Go.RowKit
theorem block_of_add (a : Addr) (n : Nat) : (a.add n).block = a.block := by unfold Addr.add; split <;> rfl
theorem add_of_add (a : Addr) (i j : Nat) : (a.add i).add j = a.add (i + j) := by
  unfold Addr.add
  by_cases hi : i = 0 <;> by_cases hj : j = 0 <;> simp [hi, hj, Nat.add_assoc]
theorem add_one_eq (a : Addr) : a.add 1 = ⟨a.block, a.off + 1, none⟩ := by simp [Addr.add]
theorem ret_bool {a b : Bool} (h : a = b) : Ending.returned (.bool a) = .returned (.bool b) := by rw [h]
theorem ret_int {k : IntKind} {a b : Int} (h : a = b) : Ending.returned (.int k a) = .returned (.int k b) := by rw [h]
theorem below_drewN {B : Nat} {a w : World} (h : Below B a w) (n : Nat) : Below B a (w.drewN n) := ⟨h.os, h.tape, h.output, h.size, h.block⟩
theorem cell_box {w : World} {p : Addr} {u : Value} (h : w.cell? p = some u) (o : Obj) : (w.alloc o).cell? p = some u := by
  rw [World.cell?_alloc_lt w o p (World.block_lt_of_cell? _ _ h)]; exact h
theorem frozen_box {w : World} {p : Addr} {b : Bool} (hp : p.block < w.heap.size) (h : w.frozen? p = b) (o : Obj) : (w.alloc o).frozen? p = b := by
  rw [← h]; exact World.frozen?_of_block (Below.heap_alloc w o _ hp)
theorem quiet_left {P : Program} {f : FuncId} {args : Array Value} {w : World} {n : Nat} {v : Value}
    (h : Calls P f args (w.drewN n) fun e w' => e = .returned v ∧ w.drewN n = w') : Calls P f args (w.drewN n) fun e w'' => e = .returned v ∧ ∃ m, w'' = w.drewN m :=
  h.mono fun _ _ ⟨he, hm⟩ => ⟨he, n, hm.symm⟩
def Reads (w : World) (B size : Nat) (A : Option Addr) (n : Nat) (xs : List Value) : Prop :=
  xs.length = n * size ∧ (0 < n → ∃ ad, A = some ad ∧ ad.block < B ∧ ∀ j u, xs[j]? = some u → w.cell? (ad.add j) = some u)
section
variable {w w' : World} {B B' size n : Nat} {A : Option Addr} {xs : List Value}
theorem Reads.none_ : Reads w B size A 0 [] := ⟨by simp, fun h => absurd h (by omega)⟩
theorem Reads.at1 {k : Nat} (h : Reads w B 1 A n xs) (hk : k < n) : ∃ ad u, A = some ad ∧ ad.block < B ∧ xs[k]? = some u ∧ w.cell? (ad.add k) = some u := by
  obtain ⟨ad, e, hb, hc⟩ := h.2 (by omega)
  have hl : k < xs.length := by have := h.1; omega
  exact ⟨ad, xs[k], e, hb, List.getElem?_eq_getElem hl, hc k _ (List.getElem?_eq_getElem hl)⟩
theorem Reads.keep (h : Reads w B size A n xs) (hk : ∀ p : Addr, p.block < B → w'.cell? p = w.cell? p) : Reads w' B size A n xs :=
  ⟨h.1, fun hn => by
    obtain ⟨ad, e, hb, hc⟩ := h.2 hn
    exact ⟨ad, e, hb, fun j u hu => (hk _ (by rw [block_of_add]; exact hb)).trans (hc j u hu)⟩⟩
theorem Reads.more (h : Reads w B size A n xs) (hB : B ≤ B') : Reads w B' size A n xs :=
  ⟨h.1, fun hn => by
    obtain ⟨ad, e, hb, hc⟩ := h.2 hn
    exact ⟨ad, e, by omega, hc⟩⟩
theorem Reads.below (h : Reads w B size A n xs) (hb : Below B w w') : Reads w' B size A n xs := h.keep fun _ hp => hb.cell hp
theorem Reads.drew (h : Reads w B size A n xs) : Reads w.drew B size A n xs := h
theorem Reads.drewN (h : Reads w B size A n xs) (k : Nat) : Reads (w.drewN k) B size A n xs := h
theorem Reads.alloc (h : Reads w B size A n xs) (hB : B ≤ w.heap.size) (o : Obj) : Reads (w.alloc o) B size A n xs := h.keep fun p hp => World.cell?_alloc_lt w o p (by omega)
theorem Reads.setCell (h : Reads w B size A n xs) {p : Addr} (hB : B ≤ p.block) (u : Value) : Reads (w.setCell p u) B size A n xs :=
  h.keep fun q hq => World.cell?_setCell_other w p q u (fun e => by subst e; omega)
theorem Reads.grown (h : Reads w B size A n xs) {row : Option Nat} (hg : w.grownBy w' row) (hB : B ≤ w.heap.size) (hr : ∀ g, row = some g → B ≤ g) : Reads w' B size A n xs :=
  h.keep fun p hp => World.cell?_of_block (hg.block p.block (by omega) (fun e => by have := hr _ e.symm; omega))
theorem Reads.of_own {base : Nat} {e : TypeId} {c : Nat} (h : w.ownsRow base e size (.slice A n c) n xs) : Reads w w.heap.size size A n xs := by
  refine ⟨h.1, fun hn => ?_⟩
  obtain ⟨g, cap, hv, _, hlt⟩ := h.form hn
  have hA : A = some ⟨g, 0, none⟩ := by injection hv
  subst hA
  exact ⟨_, rfl, hlt, h.cells (g := g) rfl⟩
theorem Reads.cut (h : Reads w B size A n xs) {k cap : Nat} (hk : k ≤ n) (hc : n ≤ cap) :
    Reads w B size (if cap = k then A else A.map (·.add (k * size))) (n - k) (xs.drop (k * size)) := by
  refine ⟨by rw [List.length_drop, h.1, Nat.sub_mul], fun hn => ?_⟩
  obtain ⟨ad, rfl, hb, hcell⟩ := h.2 (by omega)
  rw [if_neg (by omega)]
  refine ⟨ad.add (k * size), rfl, by rw [block_of_add]; exact hb, fun j u hu => ?_⟩
  rw [add_of_add]
  exact hcell _ u (by rw [← hu, List.getElem?_drop])
def pc (xs : List (Int × Int)) : List Value := xs.flatMap fun p => [.int .i64 p.1, .int .i64 p.2]
theorem pc_cons (p : Int × Int) (xs : List (Int × Int)) : pc (p :: xs) = .int .i64 p.1 :: .int .i64 p.2 :: pc xs := rfl
theorem pc_append (xs ys : List (Int × Int)) : pc (xs ++ ys) = pc xs ++ pc ys := by simp [pc]
theorem pc_length (xs : List (Int × Int)) : (pc xs).length = xs.length * 2 := by
  induction xs with
  | nil => rfl
  | cons p xs ih => rw [pc_cons]; simp [ih]; omega
theorem pc_drop (xs : List (Int × Int)) (k : Nat) : pc (xs.drop k) = (pc xs).drop (k * 2) := by
  induction xs generalizing k with
  | nil => simp [pc]
  | cons p xs ih =>
    cases k with
    | zero => simp
    | succ k => rw [List.drop_succ_cons, ih, show (k + 1) * 2 = k * 2 + 1 + 1 by omega, pc_cons, List.drop_succ_cons, List.drop_succ_cons]
theorem pc_get (xs : List (Int × Int)) (i : Nat) (hi : i < xs.length) : (pc xs)[i * 2]? = some (.int .i64 xs[i].1) ∧ (pc xs)[i * 2 + 1]? = some (.int .i64 xs[i].2) := by
  induction xs generalizing i with
  | nil => simp at hi
  | cons p xs ih =>
    cases i with
    | zero => simp [pc_cons]
    | succ i =>
      have := ih i (by simpa using hi)
      rw [show (i + 1) * 2 = i * 2 + 1 + 1 by omega, pc_cons]
      simpa using this
def PRead (w : World) (B : Nat) (A : Option Addr) (n : Nat) (xs : List (Int × Int)) : Prop := Reads w B 2 A n (pc xs)
theorem PRead.len {xs : List (Int × Int)} (h : PRead w B A n xs) : xs.length = n := by have := h.1; rw [pc_length] at this; omega
theorem PRead.at_ {xs : List (Int × Int)} (h : PRead w B A n xs) {i : Nat} (hi : i < n) :
    ∃ ad, A = some ad ∧ ad.block < B ∧ w.cell? (ad.add (i * 2)) = some (.int .i64 (xs[i]?.getD (0, 0)).1) ∧ w.cell? ⟨(ad.add (i * 2)).block, (ad.add (i * 2)).off + 1, none⟩ = some (.int .i64 (xs[i]?.getD (0, 0)).2) := by
  have hl := h.len
  have hi' : i < xs.length := by omega
  obtain ⟨ad, rfl, hb, hc⟩ := h.2 (by omega)
  obtain ⟨h1, h2⟩ := pc_get xs i hi'
  rw [List.getElem?_eq_getElem hi']
  exact ⟨ad, rfl, hb, hc _ _ h1, by rw [← add_one_eq, add_of_add]; exact hc _ _ h2⟩
theorem PRead.tail {xs : List (Int × Int)} {ad : Addr} (h : PRead w B (some ad) n xs) (hn : 0 < n) {c : Nat} (hc : n ≤ c) :
    PRead w B (if c = 1 then some ad else some ⟨ad.block, ad.off + 2, none⟩) (n - 1) (xs.drop 1) := by
  have := Reads.cut (cap := c) (k := 1) h hn hc
  rw [← pc_drop] at this
  have e : (some ad : Option Addr).map (fun x => Addr.add x (1 * 2)) = some ⟨ad.block, ad.off + 2, none⟩ := by simp [Addr.add]
  rw [e] at this
  exact this
theorem PRead.nil_ : PRead w B none 0 [] := Reads.none_
end
end Go.Proofs.YtjapjfcennemeaaGreat.mem
end
section
namespace Go.Proofs.YtjapjfcennemeaaGreat.mem
open Go.RowKit
set_option linter.unusedVariables false
theorem add_two_eq (a : Addr) : a.add 2 = ⟨a.block, a.off + 2, none⟩ := by simp [Addr.add]
abbrev L3 := List (Int × Int × Int)
def tc (xs : L3) : List Value := xs.flatMap fun p => [.int .i64 p.1, .int .i64 p.2.1, .int .i64 p.2.2]
theorem tc_cons (p : Int × Int × Int) (xs : L3) : tc (p :: xs) = .int .i64 p.1 :: .int .i64 p.2.1 :: .int .i64 p.2.2 :: tc xs := rfl
theorem tc_append (xs ys : L3) : tc (xs ++ ys) = tc xs ++ tc ys := by simp [tc]
theorem tc_length (xs : L3) : (tc xs).length = xs.length * 3 := by
  induction xs with
  | nil => rfl
  | cons p xs ih => rw [tc_cons]; simp [ih]; omega
theorem tc_get (xs : L3) (i : Nat) (hi : i < xs.length) : (tc xs)[i * 3]? = some (.int .i64 xs[i].1) ∧ (tc xs)[i * 3 + 1]? = some (.int .i64 xs[i].2.1) ∧ (tc xs)[i * 3 + 2]? = some (.int .i64 xs[i].2.2) := by
  induction xs generalizing i with
  | nil => simp at hi
  | cons p xs ih =>
    cases i with
    | zero => simp [tc_cons]
    | succ i =>
      have := ih i (by simpa using hi)
      rw [show (i + 1) * 3 = i * 3 + 1 + 1 + 1 by omega, tc_cons]
      simpa using this
theorem tc_oneCell (xs : L3) : ∀ u ∈ tc xs, u.oneCell' = true := by
  intro u hu
  simp only [tc, List.mem_flatMap] at hu
  obtain ⟨p, _, hp⟩ := hu
  simp at hp
  rcases hp with rfl | rfl | rfl <;> rfl
def ERead (w : World) (B : Nat) (A : Option Addr) (n : Nat) (xs : L3) : Prop := Reads w B 3 A n (tc xs)
def at3 (xs : L3) (i : Nat) : Int × Int × Int := xs[i]?.getD (0, 0, 0)
section
variable {w w' : World} {B n : Nat} {A : Option Addr}
theorem ERead.len {xs : L3} (h : ERead w B A n xs) : xs.length = n := by have := h.1; rw [tc_length] at this; omega
theorem ERead.at_ {xs : L3} (h : ERead w B A n xs) {i : Nat} (hi : i < n) :
    ∃ ad, A = some ad ∧ ad.block < B ∧ w.cell? (ad.add (i * 3)) = some (.int .i64 (at3 xs i).1) ∧ w.cell? ⟨(ad.add (i * 3)).block, (ad.add (i * 3)).off + 1, none⟩ = some (.int .i64 (at3 xs i).2.1) ∧ w.cell? ⟨(ad.add (i * 3)).block, (ad.add (i * 3)).off + 2, none⟩ = some (.int .i64 (at3 xs i).2.2) := by
  have hl := h.len
  have hi' : i < xs.length := by omega
  obtain ⟨ad, rfl, hb, hc⟩ := h.2 (by omega)
  obtain ⟨h1, h2, h3⟩ := tc_get xs i hi'
  unfold at3
  rw [List.getElem?_eq_getElem hi']
  exact ⟨ad, rfl, hb, hc _ _ h1, by rw [← add_one_eq, add_of_add]; exact hc _ _ h2, by rw [← add_two_eq, add_of_add]; exact hc _ _ h3⟩
theorem ERead.nil_ : ERead w B none 0 [] := Reads.none_
end
structure BlkM where
  t : Int
  last : Int
  level : Int
  num : Int
  adr : Option Addr
  en : Nat
  ec : Nat
  es : L3
def bc (xs : List BlkM) : List Value := xs.flatMap fun b => [.int .i64 b.t, .int .i64 b.last, .int .i64 b.level, .int .i64 b.num, .slice b.adr b.en b.ec]
theorem bc_cons (b : BlkM) (xs : List BlkM) : bc (b :: xs) = .int .i64 b.t :: .int .i64 b.last :: .int .i64 b.level :: .int .i64 b.num :: .slice b.adr b.en b.ec :: bc xs := rfl
theorem bc_append (xs ys : List BlkM) : bc (xs ++ ys) = bc xs ++ bc ys := by simp [bc]
theorem bc_length (xs : List BlkM) : (bc xs).length = xs.length * 5 := by
  induction xs with
  | nil => rfl
  | cons p xs ih => rw [bc_cons]; simp [ih]; omega
theorem bc_oneCell (xs : List BlkM) : ∀ u ∈ bc xs, u.oneCell' = true := by
  intro u hu
  simp only [bc, List.mem_flatMap] at hu
  obtain ⟨p, _, hp⟩ := hu
  simp at hp
  rcases hp with rfl | rfl | rfl | rfl | rfl <;> rfl
def BRead (w : World) (B : Nat) (A : Option Addr) (n : Nat) (xs : List BlkM) : Prop := Reads w B 5 A n (bc xs) ∧ ∀ b ∈ xs, ERead w B b.adr b.en b.es ∧ b.en ≤ b.ec ∧ b.ec ≤ maxLen
theorem BRead.len {w : World} {B n : Nat} {A : Option Addr} {xs : List BlkM} (h : BRead w B A n xs) : xs.length = n := by have := h.1.1; rw [bc_length] at this; omega
theorem BRead.below {w w' : World} {B n : Nat} {A : Option Addr} {xs : List BlkM} (h : BRead w B A n xs) (hb : Below B w w') : BRead w' B A n xs := ⟨h.1.below hb, fun b hx => ⟨(h.2 b hx).1.below hb, (h.2 b hx).2⟩⟩
theorem BRead.more {w : World} {B B' n : Nat} {A : Option Addr} {xs : List BlkM} (h : BRead w B A n xs) (hB : B ≤ B') : BRead w B' A n xs := ⟨h.1.more hB, fun b hx => ⟨(h.2 b hx).1.more hB, (h.2 b hx).2⟩⟩
theorem bc_drop (xs : List BlkM) (k : Nat) : bc (xs.drop k) = (bc xs).drop (k * 5) := by
  induction xs generalizing k with
  | nil => simp [bc]
  | cons p xs ih =>
    cases k with
    | zero => simp
    | succ k => rw [List.drop_succ_cons, ih, show (k + 1) * 5 = k * 5 + 1 + 1 + 1 + 1 + 1 by omega, bc_cons, List.drop_succ_cons, List.drop_succ_cons, List.drop_succ_cons, List.drop_succ_cons, List.drop_succ_cons]
theorem bc_get (xs : List BlkM) (i : Nat) (hi : i < xs.length) : (bc xs)[i * 5]? = some (.int .i64 xs[i].t) ∧ (bc xs)[i * 5 + 1]? = some (.int .i64 xs[i].last) ∧ (bc xs)[i * 5 + 2]? = some (.int .i64 xs[i].level) ∧ (bc xs)[i * 5 + 3]? = some (.int .i64 xs[i].num) ∧ (bc xs)[i * 5 + 4]? = some (.slice xs[i].adr xs[i].en xs[i].ec) := by
  induction xs generalizing i with
  | nil => simp at hi
  | cons p xs ih =>
    cases i with
    | zero => simp [bc_cons]
    | succ i =>
      have := ih i (by simpa using hi)
      rw [show (i + 1) * 5 = i * 5 + 1 + 1 + 1 + 1 + 1 by omega, bc_cons]
      simpa using this
theorem add_k_eq (a : Addr) (k : Nat) (h : k ≠ 0) : a.add k = ⟨a.block, a.off + k, none⟩ := by simp [Addr.add, h]
theorem BRead.at_ {w : World} {B n : Nat} {A : Option Addr} {xs : List BlkM} (h : BRead w B A n xs) {i : Nat} (hi : i < n) :
    ∃ ad b, A = some ad ∧ ad.block < B ∧ xs[i]? = some b ∧ w.cell? (ad.add (i * 5)) = some (.int .i64 b.t) ∧ w.cell? ⟨(ad.add (i * 5)).block, (ad.add (i * 5)).off + 1, none⟩ = some (.int .i64 b.last) ∧ w.cell? ⟨(ad.add (i * 5)).block, (ad.add (i * 5)).off + 2, none⟩ = some (.int .i64 b.level) ∧ w.cell? ⟨(ad.add (i * 5)).block, (ad.add (i * 5)).off + 3, none⟩ = some (.int .i64 b.num) ∧ w.cell? ⟨(ad.add (i * 5)).block, (ad.add (i * 5)).off + 4, none⟩ = some (.slice b.adr b.en b.ec) ∧ ERead w B b.adr b.en b.es ∧ b.en ≤ b.ec ∧ b.ec ≤ maxLen := by
  have hl := h.len
  have hi' : i < xs.length := by omega
  obtain ⟨ad, e, hb, hc⟩ := h.1.2 (by omega)
  obtain ⟨h1, h2, h3, h4, h5⟩ := bc_get xs i hi'
  have hE := h.2 xs[i] (List.getElem_mem hi')
  refine ⟨ad, xs[i], e, hb, List.getElem?_eq_getElem hi', hc _ _ h1, ?_, ?_, ?_, ?_, hE⟩
  · rw [← add_k_eq _ 1 (by omega), add_of_add]; exact hc _ _ h2
  · rw [← add_k_eq _ 2 (by omega), add_of_add]; exact hc _ _ h3
  · rw [← add_k_eq _ 3 (by omega), add_of_add]; exact hc _ _ h4
  · rw [← add_k_eq _ 4 (by omega), add_of_add]; exact hc _ _ h5
theorem BRead.tail {w : World} {B n : Nat} {xs : List BlkM} {ad : Addr} (h : BRead w B (some ad) n xs) (hn : 0 < n) {c : Nat} (hc : n ≤ c) :
    BRead w B (if c = 1 then some ad else some ⟨ad.block, ad.off + 5, none⟩) (n - 1) (xs.drop 1) := by
  refine ⟨?_, fun b hb => h.2 b (List.mem_of_mem_drop hb)⟩
  have := Reads.cut (cap := c) (k := 1) h.1 hn hc
  rw [← bc_drop] at this
  have e : (some ad : Option Addr).map (fun x => Addr.add x (1 * 5)) = some ⟨ad.block, ad.off + 5, none⟩ := by simp [Addr.add]
  rw [e] at this
  exact this
theorem BRead.first {w : World} {B n : Nat} {A : Option Addr} {b : BlkM} {xs : List BlkM} (h : BRead w B A n (b :: xs)) : ∃ ad, A = some ad ∧ ad.block < B ∧ w.cell? ad = some (.int .i64 b.t) := by
  have hl := h.len
  obtain ⟨ad, e, hb, hc⟩ := h.1.2 (by simp at hl; omega)
  have := hc 0 (.int .i64 b.t) rfl
  exact ⟨ad, e, hb, by simpa [Addr.add] using this⟩
end Go.Proofs.YtjapjfcennemeaaGreat.mem
end
