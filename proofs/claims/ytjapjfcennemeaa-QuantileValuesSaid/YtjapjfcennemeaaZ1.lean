/- Mem, Tri, App: proved here in one text, no conditions beyond those that each theorem states. -/
import Derived.Test.YtjapjfcennemeaaRows
import Derived.WalkKit
import Derived.ProofKit
import Derived.Below
import Derived.Laws.OwnMore
import Derived.Deep.Draws
import Derived.Deep.AppendLies
import Derived.Lib.Hide
import Derived.Maps.AppendAt
import Derived.RegionTactic
import Derived.OwnWalk
set_option linter.unusedVariables false
set_option linter.unusedSimpArgs false
section
namespace Go.Proofs.Ytjapjfcennemeaa.mem
open Go.RowKit
theorem block_of_add (a : Addr) (n : Nat) : (a.add n).block = a.block := by unfold Addr.add; split <;> rfl
theorem add_of_add (a : Addr) (i j : Nat) : (a.add i).add j = a.add (i + j) := by
  unfold Addr.add
  by_cases hi : i = 0 <;> by_cases hj : j = 0 <;> simp [hi, hj, Nat.add_assoc]
theorem add_one_eq (a : Addr) : a.add 1 = ⟨a.block, a.off + 1, none⟩ := by simp [Addr.add]
theorem ret_bool {a b : Bool} (h : a = b) : Ending.returned (.bool a) = .returned (.bool b) := by rw [h]
theorem ret_int {k : IntKind} {a b : Int} (h : a = b) : Ending.returned (.int k a) = .returned (.int k b) := by rw [h]
theorem below_drewN {B : Nat} {a w : World} (h : Below B a w) (n : Nat) : Below B a (w.drewN n) := ⟨h.os, h.tape, h.output, h.size, h.block⟩
theorem cell_box {w : World} {p : Addr} {u : Value} (h : w.cell? p = some u) (o : Obj) : (w.alloc o).cell? p = some u := by
  rw [World.cell?_alloc_lt w o p (World.block_lt_of_cell? _ _ h)]; exact h
theorem frozen_box {w : World} {p : Addr} {b : Bool} (hp : p.block < w.heap.size) (h : w.frozen? p = b) (o : Obj) : (w.alloc o).frozen? p = b := by
  rw [← h]; exact World.frozen?_of_block (Below.heap_alloc w o _ hp)
def Reads (w : World) (B size : Nat) (A : Option Addr) (n : Nat) (xs : List Value) : Prop :=
  xs.length = n * size ∧ (0 < n → ∃ ad, A = some ad ∧ ad.block < B ∧ ∀ j u, xs[j]? = some u → w.cell? (ad.add j) = some u)
section
variable {w w' : World} {B B' size n : Nat} {A : Option Addr} {xs : List Value}
theorem Reads.none_ : Reads w B size A 0 [] := ⟨by simp, fun h => absurd h (by omega)⟩
theorem Reads.at1 {k : Nat} (h : Reads w B 1 A n xs) (hk : k < n) : ∃ ad u, A = some ad ∧ ad.block < B ∧ xs[k]? = some u ∧ w.cell? (ad.add k) = some u := by
  obtain ⟨ad, e, hb, hc⟩ := h.2 (by omega)
  have hl : k < xs.length := by have := h.1; omega
  exact ⟨ad, xs[k], e, hb, List.getElem?_eq_getElem hl, hc k _ (List.getElem?_eq_getElem hl)⟩
theorem Reads.keep (h : Reads w B size A n xs) (hk : ∀ p : Addr, p.block < B → w'.cell? p = w.cell? p) : Reads w' B size A n xs :=
  ⟨h.1, fun hn => by
    obtain ⟨ad, e, hb, hc⟩ := h.2 hn
    exact ⟨ad, e, hb, fun j u hu => (hk _ (by rw [block_of_add]; exact hb)).trans (hc j u hu)⟩⟩
theorem Reads.more (h : Reads w B size A n xs) (hB : B ≤ B') : Reads w B' size A n xs :=
  ⟨h.1, fun hn => by
    obtain ⟨ad, e, hb, hc⟩ := h.2 hn
    exact ⟨ad, e, by omega, hc⟩⟩
theorem Reads.below (h : Reads w B size A n xs) (hb : Below B w w') : Reads w' B size A n xs := h.keep fun _ hp => hb.cell hp
theorem Reads.drew (h : Reads w B size A n xs) : Reads w.drew B size A n xs := h
theorem Reads.drewN (h : Reads w B size A n xs) (k : Nat) : Reads (w.drewN k) B size A n xs := h
theorem Reads.alloc (h : Reads w B size A n xs) (hB : B ≤ w.heap.size) (o : Obj) : Reads (w.alloc o) B size A n xs := h.keep fun p hp => World.cell?_alloc_lt w o p (by omega)
theorem Reads.setCell (h : Reads w B size A n xs) {p : Addr} (hB : B ≤ p.block) (u : Value) : Reads (w.setCell p u) B size A n xs :=
  h.keep fun q hq => World.cell?_setCell_other w p q u (fun e => by subst e; omega)
theorem Reads.grown (h : Reads w B size A n xs) {row : Option Nat} (hg : w.grownBy w' row) (hB : B ≤ w.heap.size) (hr : ∀ g, row = some g → B ≤ g) : Reads w' B size A n xs :=
  h.keep fun p hp => World.cell?_of_block (hg.block p.block (by omega) (fun e => by have := hr _ e.symm; omega))
theorem Reads.of_own {base : Nat} {e : TypeId} {c : Nat} (h : w.ownsRow base e size (.slice A n c) n xs) : Reads w w.heap.size size A n xs := by
  refine ⟨h.1, fun hn => ?_⟩
  obtain ⟨g, cap, hv, _, hlt⟩ := h.form hn
  have hA : A = some ⟨g, 0, none⟩ := by injection hv
  subst hA
  exact ⟨_, rfl, hlt, h.cells (g := g) rfl⟩
theorem Reads.cut (h : Reads w B size A n xs) {k cap : Nat} (hk : k ≤ n) (hc : n ≤ cap) :
    Reads w B size (if cap = k then A else A.map (·.add (k * size))) (n - k) (xs.drop (k * size)) := by
  refine ⟨by rw [List.length_drop, h.1, Nat.sub_mul], fun hn => ?_⟩
  obtain ⟨ad, rfl, hb, hcell⟩ := h.2 (by omega)
  rw [if_neg (by omega)]
  refine ⟨ad.add (k * size), rfl, by rw [block_of_add]; exact hb, fun j u hu => ?_⟩
  rw [add_of_add]
  exact hcell _ u (by rw [← hu, List.getElem?_drop])
def pc (xs : List (Int × Int)) : List Value := xs.flatMap fun p => [.int .i64 p.1, .int .i64 p.2]
theorem pc_cons (p : Int × Int) (xs : List (Int × Int)) : pc (p :: xs) = .int .i64 p.1 :: .int .i64 p.2 :: pc xs := rfl
theorem pc_append (xs ys : List (Int × Int)) : pc (xs ++ ys) = pc xs ++ pc ys := by simp [pc]
theorem pc_length (xs : List (Int × Int)) : (pc xs).length = xs.length * 2 := by
  induction xs with
  | nil => rfl
  | cons p xs ih => rw [pc_cons]; simp [ih]; omega
theorem pc_drop (xs : List (Int × Int)) (k : Nat) : pc (xs.drop k) = (pc xs).drop (k * 2) := by
  induction xs generalizing k with
  | nil => simp [pc]
  | cons p xs ih =>
    cases k with
    | zero => simp
    | succ k => rw [List.drop_succ_cons, ih, show (k + 1) * 2 = k * 2 + 1 + 1 by omega, pc_cons, List.drop_succ_cons, List.drop_succ_cons]
theorem pc_get (xs : List (Int × Int)) (i : Nat) (hi : i < xs.length) : (pc xs)[i * 2]? = some (.int .i64 xs[i].1) ∧ (pc xs)[i * 2 + 1]? = some (.int .i64 xs[i].2) := by
  induction xs generalizing i with
  | nil => simp at hi
  | cons p xs ih =>
    cases i with
    | zero => simp [pc_cons]
    | succ i =>
      have := ih i (by simpa using hi)
      rw [show (i + 1) * 2 = i * 2 + 1 + 1 by omega, pc_cons]
      simpa using this
def PRead (w : World) (B : Nat) (A : Option Addr) (n : Nat) (xs : List (Int × Int)) : Prop := Reads w B 2 A n (pc xs)
theorem PRead.len {xs : List (Int × Int)} (h : PRead w B A n xs) : xs.length = n := by have := h.1; rw [pc_length] at this; omega
theorem PRead.at_ {xs : List (Int × Int)} (h : PRead w B A n xs) {i : Nat} (hi : i < n) :
    ∃ ad, A = some ad ∧ ad.block < B ∧ w.cell? (ad.add (i * 2)) = some (.int .i64 (xs[i]?.getD (0, 0)).1) ∧ w.cell? ⟨(ad.add (i * 2)).block, (ad.add (i * 2)).off + 1, none⟩ = some (.int .i64 (xs[i]?.getD (0, 0)).2) := by
  have hl := h.len
  have hi' : i < xs.length := by omega
  obtain ⟨ad, rfl, hb, hc⟩ := h.2 (by omega)
  obtain ⟨h1, h2⟩ := pc_get xs i hi'
  rw [List.getElem?_eq_getElem hi']
  exact ⟨ad, rfl, hb, hc _ _ h1, by rw [← add_one_eq, add_of_add]; exact hc _ _ h2⟩
theorem PRead.tail {xs : List (Int × Int)} {ad : Addr} (h : PRead w B (some ad) n xs) (hn : 0 < n) {c : Nat} (hc : n ≤ c) :
    PRead w B (if c = 1 then some ad else some ⟨ad.block, ad.off + 2, none⟩) (n - 1) (xs.drop 1) := by
  have := Reads.cut (cap := c) (k := 1) h hn hc
  rw [← pc_drop] at this
  have e : (some ad : Option Addr).map (fun x => Addr.add x (1 * 2)) = some ⟨ad.block, ad.off + 2, none⟩ := by simp [Addr.add]
  rw [e] at this
  exact this
theorem PRead.nil_ : PRead w B none 0 [] := Reads.none_
end
end Go.Proofs.Ytjapjfcennemeaa.mem
end
section
namespace Go.Proofs.Ytjapjfcennemeaa.mem
open Go.RowKit
set_option linter.unusedVariables false
theorem add_two_eq (a : Addr) : a.add 2 = ⟨a.block, a.off + 2, none⟩ := by simp [Addr.add]
abbrev L3 := List (Int × Int × Int)
def tc (xs : L3) : List Value := xs.flatMap fun p => [.int .i64 p.1, .int .i64 p.2.1, .int .i64 p.2.2]
theorem tc_cons (p : Int × Int × Int) (xs : L3) : tc (p :: xs) = .int .i64 p.1 :: .int .i64 p.2.1 :: .int .i64 p.2.2 :: tc xs := rfl
theorem tc_append (xs ys : L3) : tc (xs ++ ys) = tc xs ++ tc ys := by simp [tc]
theorem tc_length (xs : L3) : (tc xs).length = xs.length * 3 := by
  induction xs with
  | nil => rfl
  | cons p xs ih => rw [tc_cons]; simp [ih]; omega
theorem tc_get (xs : L3) (i : Nat) (hi : i < xs.length) : (tc xs)[i * 3]? = some (.int .i64 xs[i].1) ∧ (tc xs)[i * 3 + 1]? = some (.int .i64 xs[i].2.1) ∧ (tc xs)[i * 3 + 2]? = some (.int .i64 xs[i].2.2) := by
  induction xs generalizing i with
  | nil => simp at hi
  | cons p xs ih =>
    cases i with
    | zero => simp [tc_cons]
    | succ i =>
      have := ih i (by simpa using hi)
      rw [show (i + 1) * 3 = i * 3 + 1 + 1 + 1 by omega, tc_cons]
      simpa using this
theorem tc_oneCell (xs : L3) : ∀ u ∈ tc xs, u.oneCell' = true := by
  intro u hu
  simp only [tc, List.mem_flatMap] at hu
  obtain ⟨p, _, hp⟩ := hu
  simp at hp
  rcases hp with rfl | rfl | rfl <;> rfl
def ERead (w : World) (B : Nat) (A : Option Addr) (n : Nat) (xs : L3) : Prop := Reads w B 3 A n (tc xs)
def at3 (xs : L3) (i : Nat) : Int × Int × Int := xs[i]?.getD (0, 0, 0)
section
variable {w w' : World} {B n : Nat} {A : Option Addr}
theorem ERead.len {xs : L3} (h : ERead w B A n xs) : xs.length = n := by have := h.1; rw [tc_length] at this; omega
theorem ERead.at_ {xs : L3} (h : ERead w B A n xs) {i : Nat} (hi : i < n) :
    ∃ ad, A = some ad ∧ ad.block < B ∧ w.cell? (ad.add (i * 3)) = some (.int .i64 (at3 xs i).1) ∧ w.cell? ⟨(ad.add (i * 3)).block, (ad.add (i * 3)).off + 1, none⟩ = some (.int .i64 (at3 xs i).2.1) ∧ w.cell? ⟨(ad.add (i * 3)).block, (ad.add (i * 3)).off + 2, none⟩ = some (.int .i64 (at3 xs i).2.2) := by
  have hl := h.len
  have hi' : i < xs.length := by omega
  obtain ⟨ad, rfl, hb, hc⟩ := h.2 (by omega)
  obtain ⟨h1, h2, h3⟩ := tc_get xs i hi'
  unfold at3
  rw [List.getElem?_eq_getElem hi']
  exact ⟨ad, rfl, hb, hc _ _ h1, by rw [← add_one_eq, add_of_add]; exact hc _ _ h2, by rw [← add_two_eq, add_of_add]; exact hc _ _ h3⟩
theorem ERead.nil_ : ERead w B none 0 [] := Reads.none_
end
structure BlkM where
  t : Int
  last : Int
  level : Int
  num : Int
  adr : Option Addr
  en : Nat
  ec : Nat
  es : L3
def bc (xs : List BlkM) : List Value := xs.flatMap fun b => [.int .i64 b.t, .int .i64 b.last, .int .i64 b.level, .int .i64 b.num, .slice b.adr b.en b.ec]
theorem bc_cons (b : BlkM) (xs : List BlkM) : bc (b :: xs) = .int .i64 b.t :: .int .i64 b.last :: .int .i64 b.level :: .int .i64 b.num :: .slice b.adr b.en b.ec :: bc xs := rfl
theorem bc_append (xs ys : List BlkM) : bc (xs ++ ys) = bc xs ++ bc ys := by simp [bc]
theorem bc_length (xs : List BlkM) : (bc xs).length = xs.length * 5 := by
  induction xs with
  | nil => rfl
  | cons p xs ih => rw [bc_cons]; simp [ih]; omega
theorem bc_oneCell (xs : List BlkM) : ∀ u ∈ bc xs, u.oneCell' = true := by
  intro u hu
  simp only [bc, List.mem_flatMap] at hu
  obtain ⟨p, _, hp⟩ := hu
  simp at hp
  rcases hp with rfl | rfl | rfl | rfl | rfl <;> rfl
def BRead (w : World) (B : Nat) (A : Option Addr) (n : Nat) (xs : List BlkM) : Prop := Reads w B 5 A n (bc xs) ∧ ∀ b ∈ xs, ERead w B b.adr b.en b.es ∧ b.en ≤ b.ec ∧ b.ec ≤ maxLen
theorem BRead.len {w : World} {B n : Nat} {A : Option Addr} {xs : List BlkM} (h : BRead w B A n xs) : xs.length = n := by have := h.1.1; rw [bc_length] at this; omega
theorem BRead.below {w w' : World} {B n : Nat} {A : Option Addr} {xs : List BlkM} (h : BRead w B A n xs) (hb : Below B w w') : BRead w' B A n xs := ⟨h.1.below hb, fun b hx => ⟨(h.2 b hx).1.below hb, (h.2 b hx).2⟩⟩
theorem BRead.more {w : World} {B B' n : Nat} {A : Option Addr} {xs : List BlkM} (h : BRead w B A n xs) (hB : B ≤ B') : BRead w B' A n xs := ⟨h.1.more hB, fun b hx => ⟨(h.2 b hx).1.more hB, (h.2 b hx).2⟩⟩
theorem bc_drop (xs : List BlkM) (k : Nat) : bc (xs.drop k) = (bc xs).drop (k * 5) := by
  induction xs generalizing k with
  | nil => simp [bc]
  | cons p xs ih =>
    cases k with
    | zero => simp
    | succ k => rw [List.drop_succ_cons, ih, show (k + 1) * 5 = k * 5 + 1 + 1 + 1 + 1 + 1 by omega, bc_cons, List.drop_succ_cons, List.drop_succ_cons, List.drop_succ_cons, List.drop_succ_cons, List.drop_succ_cons]
theorem bc_get (xs : List BlkM) (i : Nat) (hi : i < xs.length) : (bc xs)[i * 5]? = some (.int .i64 xs[i].t) ∧ (bc xs)[i * 5 + 1]? = some (.int .i64 xs[i].last) ∧ (bc xs)[i * 5 + 2]? = some (.int .i64 xs[i].level) ∧ (bc xs)[i * 5 + 3]? = some (.int .i64 xs[i].num) ∧ (bc xs)[i * 5 + 4]? = some (.slice xs[i].adr xs[i].en xs[i].ec) := by
  induction xs generalizing i with
  | nil => simp at hi
  | cons p xs ih =>
    cases i with
    | zero => simp [bc_cons]
    | succ i =>
      have := ih i (by simpa using hi)
      rw [show (i + 1) * 5 = i * 5 + 1 + 1 + 1 + 1 + 1 by omega, bc_cons]
      simpa using this
theorem add_k_eq (a : Addr) (k : Nat) (h : k ≠ 0) : a.add k = ⟨a.block, a.off + k, none⟩ := by simp [Addr.add, h]
theorem BRead.at_ {w : World} {B n : Nat} {A : Option Addr} {xs : List BlkM} (h : BRead w B A n xs) {i : Nat} (hi : i < n) :
    ∃ ad b, A = some ad ∧ ad.block < B ∧ xs[i]? = some b ∧ w.cell? (ad.add (i * 5)) = some (.int .i64 b.t) ∧ w.cell? ⟨(ad.add (i * 5)).block, (ad.add (i * 5)).off + 1, none⟩ = some (.int .i64 b.last) ∧ w.cell? ⟨(ad.add (i * 5)).block, (ad.add (i * 5)).off + 2, none⟩ = some (.int .i64 b.level) ∧ w.cell? ⟨(ad.add (i * 5)).block, (ad.add (i * 5)).off + 3, none⟩ = some (.int .i64 b.num) ∧ w.cell? ⟨(ad.add (i * 5)).block, (ad.add (i * 5)).off + 4, none⟩ = some (.slice b.adr b.en b.ec) ∧ ERead w B b.adr b.en b.es ∧ b.en ≤ b.ec ∧ b.ec ≤ maxLen := by
  have hl := h.len
  have hi' : i < xs.length := by omega
  obtain ⟨ad, e, hb, hc⟩ := h.1.2 (by omega)
  obtain ⟨h1, h2, h3, h4, h5⟩ := bc_get xs i hi'
  have hE := h.2 xs[i] (List.getElem_mem hi')
  refine ⟨ad, xs[i], e, hb, List.getElem?_eq_getElem hi', hc _ _ h1, ?_, ?_, ?_, ?_, hE⟩
  · rw [← add_k_eq _ 1 (by omega), add_of_add]; exact hc _ _ h2
  · rw [← add_k_eq _ 2 (by omega), add_of_add]; exact hc _ _ h3
  · rw [← add_k_eq _ 3 (by omega), add_of_add]; exact hc _ _ h4
  · rw [← add_k_eq _ 4 (by omega), add_of_add]; exact hc _ _ h5
theorem BRead.tail {w : World} {B n : Nat} {xs : List BlkM} {ad : Addr} (h : BRead w B (some ad) n xs) (hn : 0 < n) {c : Nat} (hc : n ≤ c) :
    BRead w B (if c = 1 then some ad else some ⟨ad.block, ad.off + 5, none⟩) (n - 1) (xs.drop 1) := by
  refine ⟨?_, fun b hb => h.2 b (List.mem_of_mem_drop hb)⟩
  have := Reads.cut (cap := c) (k := 1) h.1 hn hc
  rw [← bc_drop] at this
  have e : (some ad : Option Addr).map (fun x => Addr.add x (1 * 5)) = some ⟨ad.block, ad.off + 5, none⟩ := by simp [Addr.add]
  rw [e] at this
  exact this
theorem BRead.first {w : World} {B n : Nat} {A : Option Addr} {b : BlkM} {xs : List BlkM} (h : BRead w B A n (b :: xs)) : ∃ ad, A = some ad ∧ ad.block < B ∧ w.cell? ad = some (.int .i64 b.t) := by
  have hl := h.len
  obtain ⟨ad, e, hb, hc⟩ := h.1.2 (by simp at hl; omega)
  have := hc 0 (.int .i64 b.t) rfl
  exact ⟨ad, e, hb, by simpa [Addr.add] using this⟩
end Go.Proofs.Ytjapjfcennemeaa.mem
end
section
namespace Go.Proofs.Ytjapjfcennemeaa.mem
open Go.RowKit
section
variable {P : Program} (w : World)
theorem run_append_of_nil (base : Nat) (t ty e : TypeId) (i : TypeInfo) (size : Nat) (ht : P.underlying t = some (.slice e)) (hi : P.info? e = some i)
    (v : Value) (n : Nat) (xs : List Value) (hown : w.ownsRow base e size v n xs) (c : Nat) : (Builtin.append_ #[t, t] ty #[v, .slice none 0 c]).run P w = .ok v w := by
  rcases hown.2 with ⟨rfl, rfl⟩ | ⟨g, cap, cur, rfl, _, _, hnc, _⟩
  · simp [Builtin.append_, run_underlying ht, sizeOf, typeInfo, hi, Builtin.lenOf, Builtin.firstCells]
  · simp [Builtin.append_, run_underlying ht, sizeOf, typeInfo, hi, Builtin.lenOf, Builtin.firstCells, hnc, storeCells]
theorem run_append_any (base : Nat) (t ty e : TypeId) (i : TypeInfo) (z : Value) (size bytes : Nat) (ht : P.underlying t = some (.slice e)) (hi : P.info? e = some i) (hz : i.zero = some z)
    (hsize : i.size = size) (hby : i.bytes = bytes) (hzs : z.cells.size = size) (hsz : 0 < size)
    (v : Value) (n : Nat) (xs : List Value) (hown : w.ownsRow base e size v n xs)
    (B : Nat) (A : Option Addr) (m c : Nat) (news : List Value) (hr : Reads w B size A m news) (h1 : ∀ u ∈ news, u.oneCell' = true)
    (h63 : n + m ≤ maxLen) (hbytes : (n + m) * bytes ≤ 140737488355328) (hbase : base ≤ w.heap.size) :
    ∃ v' w', (Builtin.append_ #[t, t] ty #[v, .slice A m c]).run P w = .ok v' w' ∧ w'.ownsRow base e size v' (n + m) (xs ++ news) ∧ w.grownBy w' v.ownBlock ∧
      (v'.ownBlock = v.ownBlock ∨ v'.ownBlock = some w.heap.size) := by
  rcases A with _ | ad
  · have hm : m = 0 := by
      rcases Nat.eq_zero_or_pos m with h0 | h0
      · exact h0
      · obtain ⟨ad, h, _⟩ := hr.2 h0
        cases h
    subst hm
    have hn : news = [] := List.eq_nil_of_length_eq_zero (by simpa using hr.1)
    subst hn
    exact ⟨v, w, run_append_of_nil w base t ty e i size ht hi v n xs hown c, by simpa using hown, World.grownBy.refl w _, .inl rfl⟩
  · have hcells : ∀ j u, news[j]? = some u → w.cell? (ad.add j) = some u := by
      intro j u hu
      rcases Nat.eq_zero_or_pos m with h0 | h0
      · subst h0
        have hn : news = [] := List.eq_nil_of_length_eq_zero (by simpa using hr.1)
        subst hn
        simp at hu
      · obtain ⟨ad', h, _, hc⟩ := hr.2 h0
        injection h with h
        subst h
        exact hc j u hu
    obtain ⟨v', w', hrun, h2, h3, _, h5⟩ := run_append_own_at (P := P) w base t ty e i z size bytes ht hi hz hsize hby hzs hsz v n xs hown ad m c news hr.1 hcells h1 h63 hbytes hbase
    exact ⟨v', w', hrun, h2, h3, h5⟩
theorem wp_append_any {o : Oper} {a : Act} {K : Act → World → Prop} {Q : Exit → Act → World → Prop} (s x : Operand) (t : TypeId)
    (ho : o.op = .call { callee := .builtin .append, args := #[s, x], argTypes := #[t, t] })
    (base : Nat) (e : TypeId) (i : TypeInfo) (z : Value) (size bytes : Nat) (ht : P.underlying t = some (.slice e)) (hi : P.info? e = some i) (hz : i.zero = some z)
    (hsize : i.size = size) (hby : i.bytes = bytes) (hzs : z.cells.size = size) (hsz : 0 < size)
    (v : Value) (n : Nat) (xs : List Value) (hs : a.eval s = v) (hown : w.ownsRow base e size v n xs)
    (B : Nat) (A : Option Addr) (m c : Nat) (news : List Value) (hx : a.eval x = .slice A m c) (hr : Reads w B size A m news) (h1 : ∀ u ∈ news, u.oneCell' = true)
    (h63 : n + m ≤ maxLen) (hbytes : (n + m) * bytes ≤ 140737488355328) (hbase : base ≤ w.heap.size)
    (h : ∀ v' w', w'.ownsRow base e size v' (n + m) (xs ++ news) → w.grownBy w' v.ownBlock → (v'.ownBlock = v.ownBlock ∨ v'.ownBlock = some w.heap.size) → K (a.put o.dst v') w') : o.wp P a w K Q := by
  obtain ⟨v', w', hrun, h2, h3, h4⟩ := run_append_any (P := P) w base t o.type e i z size bytes ht hi hz hsize hby hzs hsz v n xs hown B A m c news hr h1 h63 hbytes hbase
  unfold Oper.wp execOp
  simp only [ho, resolve, invoke, builtin, Sem.run_bind, Sem.run_pure, Result.andThen_ok, List.map_toArray, List.map_cons, List.map_nil, hs, hx, hrun]
  exact h v' w' h2 h3 h4
theorem wpList_append_any {ops : Array Oper} {rest : List Oper} {o : Oper} {a : Act} {Q : Exit → Act → World → Prop} (hgd : o.guard = none) (s x : Operand) (t : TypeId)
    (ho : o.op = .call { callee := .builtin .append, args := #[s, x], argTypes := #[t, t] })
    (base : Nat) (e : TypeId) (i : TypeInfo) (z : Value) (size bytes : Nat) (ht : P.underlying t = some (.slice e)) (hi : P.info? e = some i) (hz : i.zero = some z)
    (hsize : i.size = size) (hby : i.bytes = bytes) (hzs : z.cells.size = size) (hsz : 0 < size)
    (v : Value) (n : Nat) (xs : List Value) (hs : a.eval s = v) (hown : w.ownsRow base e size v n xs)
    (B : Nat) (A : Option Addr) (m c : Nat) (news : List Value) (hx : a.eval x = .slice A m c) (hr : Reads w B size A m news) (h1 : ∀ u ∈ news, u.oneCell' = true)
    (h63 : n + m ≤ maxLen) (hbytes : (n + m) * bytes ≤ 140737488355328) (hbase : base ≤ w.heap.size)
    (h : ∀ v' w', w'.ownsRow base e size v' (n + m) (xs ++ news) → w.grownBy w' v.ownBlock → (v'.ownBlock = v.ownBlock ∨ v'.ownBlock = some w.heap.size) → wpList P ops Q rest (a.put o.dst v') w') : wpList P ops Q (o :: rest) a w :=
  wpList_plain hgd fun _ hK => wp_append_any w s x t ho base e i z size bytes ht hi hz hsize hby hzs hsz v n xs hs hown B A m c news hx hr h1 h63 hbytes hbase fun v' w' h2 h3 h4 => hK _ _ (h v' w' h2 h3 h4)
theorem step_append_any {ops : Array Oper} {o : Oper} {a : Act} {K : Act → World → Prop} {Q : Exit → Act → World → Prop} {E : Prop} (hgd : o.guard = none) (s x : Operand) (t : TypeId)
    (ho : o.op = .call { callee := .builtin .append, args := #[s, x], argTypes := #[t, t] })
    (base : Nat) (e : TypeId) (i : TypeInfo) (z : Value) (size bytes : Nat) (ht : P.underlying t = some (.slice e)) (hi : P.info? e = some i) (hz : i.zero = some z)
    (hsize : i.size = size) (hby : i.bytes = bytes) (hzs : z.cells.size = size) (hsz : 0 < size)
    (v : Value) (n : Nat) (xs : List Value) (hs : a.eval s = v) (hown : w.ownsRow base e size v n xs)
    (B : Nat) (A : Option Addr) (m c : Nat) (news : List Value) (hx : a.eval x = .slice A m c) (hr : Reads w B size A m news) (h1 : ∀ u ∈ news, u.oneCell' = true)
    (h63 : n + m ≤ maxLen) (hbytes : (n + m) * bytes ≤ 140737488355328) (hbase : base ≤ w.heap.size)
    (h : ∀ v' w', w'.ownsRow base e size v' (n + m) (xs ++ news) → w.grownBy w' v.ownBlock → (v'.ownBlock = v.ownBlock ∨ v'.ownBlock = some w.heap.size) → K (a.put o.dst v') w') :
    if Region.wanted o (yielded ops a.tmps) = true then Oper.wp P o a w K Q else E := by
  have hw : Region.wanted o (yielded ops a.tmps) = true := by simp [Region.wanted, hgd]
  rw [if_pos hw]
  exact wp_append_any w s x t ho base e i z size bytes ht hi hz hsize hby hzs hsz v n xs hs hown B A m c news hx hr h1 h63 hbytes hbase h
end
theorem own_form {w : World} {base : Nat} {e : TypeId} {size n : Nat} {v : Value} {xs : List Value} (h : w.ownsRow base e size v n xs) :
    ∃ A c, v = .slice A n c ∧ n ≤ c ∧ c ≤ maxLen ∧ Reads w w.heap.size size A n xs := by
  have h0 := h
  rcases h.2 with ⟨rfl, rfl⟩ | ⟨g, cap, cur, rfl, _, _, hnc, hcm, _⟩
  · exact ⟨none, 0, rfl, Nat.le_refl _, Nat.zero_le _, .of_own (c := 0) h0⟩
  · exact ⟨_, cap, rfl, hnc, hcm, .of_own h0⟩
theorem own_empty (w : World) (e : TypeId) {size : Nat} : (w.alloc (.cells #[] e)).ownsRow w.heap.size e size (.slice (some ⟨w.heap.size, 0, none⟩) 0 0) 0 [] :=
  ⟨by simp, .inr ⟨w.heap.size, 0, #[], rfl, Nat.le_refl _, heap_alloc_new w _, Nat.le_refl _, Nat.zero_le _, by simp, by simp⟩⟩
theorem own_nil (w : World) (base : Nat) (e : TypeId) (size : Nat) : w.ownsRow base e size (.slice none 0 0) 0 [] := ⟨by simp, .inl ⟨rfl, rfl⟩⟩
theorem reads_new (w : World) (e : TypeId) (vs : Array Value) {size n : Nat} (h : vs.size = n * size) : Reads (w.alloc (.cells vs e)) (w.heap.size + 1) size (some ⟨w.heap.size, 0, none⟩) n vs.toList := by
  refine ⟨by simpa using h, fun _ => ⟨_, rfl, by simp, fun j u hu => ?_⟩⟩
  have hadd : (⟨w.heap.size, 0, none⟩ : Addr).add j = ⟨w.heap.size, j, none⟩ := by unfold Addr.add; split <;> simp_all
  rw [hadd, World.cell?_alloc_at _ _ _ _ (by simp)]
  simpa using hu
theorem own_alloc {w : World} {base : Nat} {e : TypeId} {size n : Nat} {v : Value} {xs : List Value} (h : w.ownsRow base e size v n xs) (o : Obj) : (w.alloc o).ownsRow base e size v n xs := h.alloc o
theorem own_block_ge {w : World} {base : Nat} {e : TypeId} {size n : Nat} {v : Value} {xs : List Value} (h : w.ownsRow base e size v n xs) : ∀ g, v.ownBlock = some g → base ≤ g := by
  intro g hg
  rcases h.2 with ⟨rfl, _⟩ | ⟨g', cap, cur, rfl, hb, _⟩
  · simp [Value.ownBlock] at hg
  · simp [Value.ownBlock] at hg; omega
theorem below_box {a w w1 : World} {e : TypeId} {size n : Nat} {v : Value} {xs : List Value} (hb : Below a.heap.size a w) (hown : w.ownsRow a.heap.size e size v n xs) {o : Obj} (hg : (w.alloc o).grownBy w1 v.ownBlock) : Below a.heap.size a w1 :=
  (hb.alloc hb.size o).grown hg (by have := hb.size; simp; omega) (own_block_ge hown)
def IRead (w : World) (B : Nat) (A : Option Addr) (n : Nat) (xs : List Int) : Prop := Reads w B 1 A n (xs.map (Value.int .i64))
theorem IRead.len {w : World} {B n : Nat} {A : Option Addr} {xs : List Int} (h : IRead w B A n xs) : xs.length = n := by have := h.1; simpa using this
theorem IRead.at_ {w : World} {B n i : Nat} {A : Option Addr} {xs : List Int} (h : IRead w B A n xs) (hi : i < n) :
    ∃ ad, A = some ad ∧ ad.block < B ∧ w.cell? (ad.add i) = some (.int .i64 (xs[i]?.getD 0)) := by
  obtain ⟨ad, u, rfl, hb, hu, hc⟩ := Reads.at1 h hi
  refine ⟨ad, rfl, hb, ?_⟩
  rw [hc]
  rw [List.getElem?_map] at hu
  cases h : xs[i]? with
  | none => rw [h] at hu; simp at hu
  | some z => rw [h] at hu; simp at hu; simp [← hu]
def NewP (ys : List (Int × Int)) (w : World) (e : Ending) (w' : World) : Prop :=
  ∃ A m c, e = .returned (.slice A m c) ∧ m ≤ c ∧ c ≤ maxLen ∧ PRead w' w'.heap.size A m ys ∧ Below w.heap.size w w'
theorem newP_own {w w1 : World} {base : Nat} {e : TypeId} {v : Value} {n : Nat} {ys : List (Int × Int)} {xs : List Value} (hb : Below w.heap.size w w1) (hown : w1.ownsRow base e 2 v n xs) (hx : xs = pc ys) : NewP ys w (.returned v) w1 := by
  obtain ⟨A, c, rfl, h1, h2, h3⟩ := own_form hown
  subst hx
  exact ⟨A, n, c, rfl, h1, h2, h3, hb⟩
def Blk (w : World) (g : Nat) (t : TypeId) (cs : Array Value) : Prop := w.heap[g]? = some (.cells cs t (0, 0))
section
variable {w w' : World} {g : Nat} {t : TypeId} {cs : Array Value}
theorem Blk.lt (h : Blk w g t cs) : g < w.heap.size := by
  rcases Nat.lt_or_ge g w.heap.size with hlt | hge
  · exact hlt
  · unfold Blk at h; rw [Array.getElem?_eq_none hge] at h; cases h
theorem Blk.cell (h : Blk w g t cs) (i : Nat) : w.cell? ⟨g, i, none⟩ = cs[i]? := by
  unfold Blk at h; simp [World.cell?, h]
theorem Blk.frozen (h : Blk w g t cs) (i : Nat) : w.frozen? ⟨g, i, none⟩ = false := by
  unfold Blk at h
  simp [World.frozen?, h]
theorem Blk.new (w : World) (t : TypeId) (cs : Array Value) : Blk (w.alloc (.cells cs t)) w.heap.size t cs := heap_alloc_new w _
theorem Blk.drew (h : Blk w g t cs) : Blk w.drew g t cs := h
theorem Blk.drewN (h : Blk w g t cs) (n : Nat) : Blk (w.drewN n) g t cs := h
theorem Blk.alloc (h : Blk w g t cs) (o : Obj) : Blk (w.alloc o) g t cs := (Below.heap_alloc w o g h.lt).trans h
theorem Blk.set_ (h : Blk w g t cs) (i : Nat) (u : Value) : Blk (w.setCell ⟨g, i, none⟩ u) g t (cs.setIfInBounds i u) := by
  unfold Blk at h ⊢
  simp [World.setCell, Array.getElem?_modify, h]
theorem Blk.far (h : Blk w g t cs) {p : Addr} (hp : g ≠ p.block) (u : Value) : Blk (w.setCell p u) g t cs := (Below.heap_setCell w p u g hp).trans h
theorem Blk.below {B : Nat} (h : Blk w g t cs) (hb : Below B w w') (hg : g < B) : Blk w' g t cs := (hb.block g hg).trans h
theorem Blk.grown {row : Option Nat} (h : Blk w g t cs) (hb : w.grownBy w' row) (hg : some g ≠ row) : Blk w' g t cs := (hb.block g h.lt hg).trans h
end
end Go.Proofs.Ytjapjfcennemeaa.mem
end
