/- Rnk, Own, Own2, MeanL, Made, NewF, Win: proved here in one text, no conditions beyond those that each theorem states. -/
import Derived.OwnWalk
import Derived.Test.YtjapjfcennemeaaZ1
set_option linter.unusedVariables false
set_option linter.unusedSimpArgs false
section
namespace Go.Proofs.Ytjapjfcennemeaa.rnk
open Go.Proofs.Ytjapjfcennemeaa.mem
set_option linter.unusedVariables false
def enAt (N : Int) (es : L3) (i : Nat) : Bool :=
  (decide (1 ≤ (at3 es i).2.1) && decide ((at3 es i).2.1 ≤ (at3 es i).2.2) && decide ((at3 es i).2.2 ≤ N)) &&
  (decide (i = 0) || (decide ((at3 es (i - 1)).1 ≤ (at3 es i).1) && decide ((at3 es (i - 1)).2.1 < (at3 es i).2.1) && decide ((at3 es (i - 1)).2.2 < (at3 es i).2.2)))
def enTo (N : Int) (es : L3) : Nat → Bool
  | 0 => true
  | i + 1 => enTo N es i && enAt N es i
theorem enTo_succ {N : Int} {es : L3} {i : Nat} (h : enTo N es i = true) (h2 : enAt N es i = true) : enTo N es (i + 1) = true := by unfold enTo; rw [h, h2]; rfl
theorem enTo_not {N : Int} {es : L3} {i : Nat} (h : enAt N es i = false) : ∀ n, i < n → enTo N es n = false
  | 0, h2 => absurd h2 (by omega)
  | n + 1, h2 => by
    unfold enTo
    by_cases e : i = n
    · subst e; rw [h, Bool.and_false]
    · rw [enTo_not h n (by omega), Bool.false_and]
theorem enTo_iff {N : Int} {es : L3} : ∀ n, enTo N es n = true ↔ ∀ i < n, enAt N es i = true
  | 0 => ⟨fun _ i h => absurd h (by omega), fun _ => rfl⟩
  | n + 1 => by
    unfold enTo
    rw [Bool.and_eq_true, enTo_iff n]
    constructor
    · rintro ⟨h1, h2⟩ i hi
      by_cases e : i = n
      · rw [e]; exact h2
      · exact h1 i (by omega)
    · intro h; exact ⟨fun i hi => h i (by omega), h n (by omega)⟩
def headR (N : Int) (n : Nat) : Bool := decide (0 ≤ N) && decide (N ≤ 1099511627776) && (decide (n = 0) == decide (N = 0))
def endsR (N : Int) (es : L3) (n : Nat) : Bool := decide (n = 0) || (decide ((at3 es 0).2.2 = 1) && decide ((at3 es (n - 1)).2.1 = N))
def valR (N : Int) (es : L3) : Bool := headR N es.length && enTo N es es.length && endsR N es es.length
def erS (b : Bool) : Int := if b = true then 0 else 2
theorem erS_t : erS true = 0 := rfl
theorem erS_f : erS false = 2 := rfl
section
variable {N : Int} {es : L3} {n i : Nat}
theorem valR_head (hl : es.length = n) (h : headR N n = false) : valR N es = false := by unfold valR; rw [hl, h]; rfl
theorem valR_not (hl : es.length = n) (hi : i < n) (h : enAt N es i = false) : valR N es = false := by unfold valR; rw [hl, enTo_not h n hi, Bool.and_false, Bool.false_and]
theorem valR_ends (hl : es.length = n) (h : endsR N es n = false) : valR N es = false := by unfold valR; rw [hl, h, Bool.and_false]
theorem valR_yes (hl : es.length = n) (h : headR N n = true) (ho : enTo N es n = true) (he : endsR N es n = true) : valR N es = true := by unfold valR; rw [hl, h, ho, he]; rfl
theorem headR_iff : headR N n = true ↔ 0 ≤ N ∧ N ≤ 1099511627776 ∧ (n = 0 ↔ N = 0) := by unfold headR; simp [and_assoc]
theorem enAt_iff : enAt N es i = true ↔ (1 ≤ (at3 es i).2.1 ∧ (at3 es i).2.1 ≤ (at3 es i).2.2 ∧ (at3 es i).2.2 ≤ N) ∧ (0 < i → (at3 es (i - 1)).1 ≤ (at3 es i).1 ∧ (at3 es (i - 1)).2.1 < (at3 es i).2.1 ∧ (at3 es (i - 1)).2.2 < (at3 es i).2.2) := by
  unfold enAt
  simp only [Bool.and_eq_true, Bool.or_eq_true, decide_eq_true_eq]
  constructor
  · rintro ⟨⟨⟨h1, h2⟩, h3⟩, h4⟩
    refine ⟨⟨h1, h2, h3⟩, fun h => ?_⟩
    rcases h4 with h4 | ⟨⟨h4, h5⟩, h6⟩
    · omega
    · exact ⟨h4, h5, h6⟩
  · rintro ⟨⟨h1, h2, h3⟩, h4⟩
    refine ⟨⟨⟨h1, h2⟩, h3⟩, ?_⟩
    by_cases h : i = 0
    · exact .inl h
    · obtain ⟨h5, h6, h7⟩ := h4 (by omega)
      exact .inr ⟨⟨h5, h6⟩, h7⟩
theorem enAt_iff0 : enAt N es i = false ↔ ¬ ((1 ≤ (at3 es i).2.1 ∧ (at3 es i).2.1 ≤ (at3 es i).2.2 ∧ (at3 es i).2.2 ≤ N) ∧ (0 < i → (at3 es (i - 1)).1 ≤ (at3 es i).1 ∧ (at3 es (i - 1)).2.1 < (at3 es i).2.1 ∧ (at3 es (i - 1)).2.2 < (at3 es i).2.2)) := by rw [← enAt_iff]; simp
theorem endsR_iff : endsR N es n = true ↔ (0 < n → (at3 es 0).2.2 = 1 ∧ (at3 es (n - 1)).2.1 = N) := by
  unfold endsR
  simp only [Bool.and_eq_true, Bool.or_eq_true, decide_eq_true_eq]
  constructor
  · rintro (h | h) h0
    · omega
    · exact h
  · intro h
    by_cases h0 : n = 0
    · exact .inl h0
    · exact .inr (h (by omega))
theorem endsR_iff0 : endsR N es n = false ↔ ¬ (0 < n → (at3 es 0).2.2 = 1 ∧ (at3 es (n - 1)).2.1 = N) := by rw [← endsR_iff]; simp
theorem valR_iff : valR N es = true ↔ (0 ≤ N ∧ N ≤ 1099511627776 ∧ (es.length = 0 ↔ N = 0)) ∧ (∀ i < es.length, (1 ≤ (at3 es i).2.1 ∧ (at3 es i).2.1 ≤ (at3 es i).2.2 ∧ (at3 es i).2.2 ≤ N) ∧ (0 < i → (at3 es (i - 1)).1 ≤ (at3 es i).1 ∧ (at3 es (i - 1)).2.1 < (at3 es i).2.1 ∧ (at3 es (i - 1)).2.2 < (at3 es i).2.2)) ∧ (0 < es.length → (at3 es 0).2.2 = 1 ∧ (at3 es (es.length - 1)).2.1 = N) := by
  unfold valR
  rw [Bool.and_eq_true, Bool.and_eq_true, headR_iff, enTo_iff, endsR_iff, and_assoc]
  simp only [enAt_iff]
end
def gapTo (es : L3) : Nat → Int
  | 0 => 1
  | i + 1 => max (gapTo es i) ((at3 es (i + 1)).2.2 - (at3 es i).2.1)
def gapR (N : Int) (es : L3) : Int := if valR N es = true ∧ 0 < es.length then gapTo es (es.length - 1) else 0
theorem gapTo_bd {N : Int} {es : L3} (h : valR N es = true) (hN : 1 ≤ N) : ∀ i, i < es.length → 1 ≤ gapTo es i ∧ gapTo es i ≤ N
  | 0, _ => ⟨Int.le_refl _, hN⟩
  | i + 1, hi => by
    obtain ⟨_, h2, _⟩ := valR_iff.1 h
    have h3 := gapTo_bd h hN i (by omega)
    obtain ⟨⟨a1, a2, a3⟩, _⟩ := h2 i (by omega)
    obtain ⟨⟨b1, b2, b3⟩, _⟩ := h2 (i + 1) hi
    unfold gapTo
    omega
end Go.Proofs.Ytjapjfcennemeaa.rnk
end
section
set_option linter.unusedVariables false
namespace Go.Proofs.Ytjapjfcennemeaa.mem
open Go.RowKit
section
variable {w w' : World} {base : Nat} {e : TypeId} {size n c g : Nat} {v : Value} {xs : List Value}
theorem own_form2 (h : w.ownsRow base e size v n xs) (hn : 0 < n) :
    ∃ g c, v = .slice (some ⟨g, 0, none⟩) n c ∧ n ≤ c ∧ c ≤ 9223372036854775807 ∧ base ≤ g ∧ g < w.heap.size := by
  rcases h.2 with ⟨rfl, rfl⟩ | ⟨g, cap, cur, rfl, hb, hh, hnc, hcm, _⟩
  · omega
  · refine ⟨g, cap, rfl, hnc, hcm, hb, ?_⟩
    rcases Nat.lt_or_ge g w.heap.size with h1 | h1
    · exact h1
    · rw [Array.getElem?_eq_none h1] at hh; cases hh
theorem own_prefix (h : w.ownsRow base e size (.slice (some ⟨g, 0, none⟩) n c) n xs) {k : Nat} (hk : k ≤ n) :
    w.ownsRow base e size (.slice (some ⟨g, 0, none⟩) k c) k (xs.take (k * size)) := by
  rcases h.2 with ⟨h1, _⟩ | ⟨g', cap, cur, h1, hb, hh, hnc, hcm, hs, hx⟩
  · cases h1
  · simp only [Value.slice.injEq, Option.some.injEq, Addr.mk.injEq, and_true, true_and] at h1
    obtain ⟨rfl, rfl⟩ := h1
    have hks : k * size ≤ n * size := Nat.mul_le_mul_right _ hk
    refine ⟨by rw [List.length_take, h.1]; exact Nat.min_eq_left hks, .inr ⟨g, c, cur, rfl, hb, hh, by omega, hcm, hs, ?_⟩⟩
    rw [← hx, List.take_take, Nat.min_eq_left hks]
theorem own_reads (h : w.ownsRow base e size (.slice (some ⟨g, 0, none⟩) n c) n xs) {k : Nat} (hk : k ≤ n) :
    Reads w (g + 1) size (some ⟨g, k * size, none⟩) (n - k) (xs.drop (k * size)) := by
  refine ⟨by rw [List.length_drop, h.1, Nat.sub_mul], fun hn => ⟨_, rfl, by simp, fun j u hu => ?_⟩⟩
  have hj : k * size + j < n * size := by
    rcases Nat.lt_or_ge (k * size + j) (n * size) with h1 | h1
    · exact h1
    · rw [List.getElem?_eq_none (by rw [List.length_drop, h.1]; omega)] at hu; cases hu
  have hadd : (⟨g, k * size, none⟩ : Addr).add j = ⟨g, k * size + j, none⟩ := by unfold Addr.add; split <;> simp_all
  rw [hadd, h.cellAt _ hj, ← hu, List.getElem?_drop]
theorem own_cut (h : w.ownsRow base e size (.slice (some ⟨g, 0, none⟩) n c) n xs) {k : Nat} (hk : k ≤ n) (hc : n ≤ c) :
    Reads w (g + 1) size (if c = k then some ⟨g, 0, none⟩ else some ⟨g, k * size, none⟩) (n - k) (xs.drop (k * size)) := by
  split
  · have hz : n - k = 0 := by omega
    refine ⟨by rw [List.length_drop, h.1, ← Nat.sub_mul], fun h0 => by omega⟩
  · exact own_reads h hk
theorem own_keep (h : w.ownsRow base e size v n xs) (hb : Below w.heap.size w w') : w'.ownsRow base e size v n xs := by
  refine ⟨h.1, ?_⟩
  rcases h.2 with h2 | ⟨g, cap, cur, hv, hg, hh, r⟩
  · exact .inl h2
  · have hlt : g < w.heap.size := by
      rcases Nat.lt_or_ge g w.heap.size with h1 | h1
      · exact h1
      · rw [Array.getElem?_eq_none h1] at hh; cases hh
    exact .inr ⟨g, cap, cur, hv, hg, by rw [hb.block g hlt]; exact hh, r⟩
theorem own_empty2 {t : TypeId} (hg : w.heap.size = g) (hb : base ≤ g) : (w.alloc (.cells #[] t)).ownsRow base t size (.slice (some ⟨g, 0, none⟩) 0 0) 0 [] := by
  subst hg
  exact ⟨by simp, .inr ⟨w.heap.size, 0, #[], rfl, hb, heap_alloc_new w _, Nat.le_refl _, Nat.zero_le _, by simp, by simp⟩⟩
theorem blk_new2 {t : TypeId} {cs : Array Value} (hg : w.heap.size = g) : Blk (w.alloc (.cells cs t)) g t cs := by subst hg; exact Blk.new w t cs
theorem reads_blk {t : TypeId} {cs : Array Value} (h : Blk w g t cs) (hs : cs.size = n * size) : Reads w (g + 1) size (some ⟨g, 0, none⟩) n cs.toList := by
  refine ⟨by simpa using hs, fun _ => ⟨_, rfl, by simp, fun j u hu => ?_⟩⟩
  have hadd : (⟨g, 0, none⟩ : Addr).add j = ⟨g, j, none⟩ := by unfold Addr.add; split <;> simp_all
  rw [hadd, h.cell]
  simpa using hu
end
end Go.Proofs.Ytjapjfcennemeaa.mem
end
section
namespace Go.Proofs.Ytjapjfcennemeaa.mem
open Go.RowKit
theorem below_own {W w1 a : World} {B base : Nat} {e : TypeId} {size n : Nat} {v : Value} {xs : List Value} (hg : W.grownBy w1 v.ownBlock) (hown : W.ownsRow base e size v n xs) (hb : Below B a W) (hB : B ≤ base) (hW : B ≤ W.heap.size) : Below B a w1 :=
  hb.grown hg hW (fun k hk => Nat.le_trans hB (own_block_ge hown k hk))
end Go.Proofs.Ytjapjfcennemeaa.mem
end
section
namespace Go.Proofs.Ytjapjfcennemeaa.wid
open Go
theorem nat_mean : ∀ (k m n : Nat), m < k → m + n = 2 * (m &&& n) + (m ^^^ n)
  | 0, m, n, h => absurd h (Nat.not_lt_zero _)
  | k + 1, m, n, h => by
    by_cases h0 : m = 0
    · subst h0; simp
    · have ih := nat_mean k (m / 2) (n / 2) (by omega)
      have a1 : (m &&& n) / 2 = m / 2 &&& n / 2 := Nat.and_div_two
      have a2 : (m ^^^ n) / 2 = m / 2 ^^^ n / 2 := Nat.xor_div_two
      have a3 : (m &&& n) % 2 = 1 ↔ m % 2 = 1 ∧ n % 2 = 1 := Nat.and_mod_two_eq_one
      have a4 : (m ^^^ n) % 2 = 1 ↔ ¬(m % 2 = 1 ↔ n % 2 = 1) := Nat.xor_mod_two_eq_one
      rw [← a1, ← a2] at ih
      omega
theorem wrap_toInt (v : BitVec 64) : IntKind.i64.wrap (v.toNat : Int) = v.toInt := by
  have := v.isLt
  rw [BitVec.toInt_eq_toNat_cond]
  simp [IntKind.wrap, IntKind.bits, IntKind.signed]
  split <;> omega
theorem bits_sum {x y : Int} (hx : -9223372036854775808 ≤ x ∧ x ≤ 9223372036854775807) (hy : -9223372036854775808 ≤ y ∧ y ≤ 9223372036854775807) :
    x + y = 2 * bits .and .i64 x y + bits .xor .i64 x y := by
  have e1 : bits .and .i64 x y = (BitVec.ofInt 64 x &&& BitVec.ofInt 64 y).toInt := wrap_toInt _
  have e2 : bits .xor .i64 x y = (BitVec.ofInt 64 x ^^^ BitVec.ofInt 64 y).toInt := wrap_toInt _
  have f1 : (BitVec.ofInt 64 x).toInt = x := BitVec.toInt_ofInt_eq_self (by omega) (by omega) (by omega)
  have f2 : (BitVec.ofInt 64 y).toInt = y := BitVec.toInt_ofInt_eq_self (by omega) (by omega) (by omega)
  rw [e1, e2]
  generalize BitVec.ofInt 64 x = a at *
  generalize BitVec.ofInt 64 y = b at *
  have g := nat_mean (a.toNat + 1) a.toNat b.toNat (by omega)
  rw [← f1, ← f2]
  have m1 := BitVec.toInt_eq_msb_cond a
  have m2 := BitVec.toInt_eq_msb_cond b
  have m3 := BitVec.toInt_eq_msb_cond (a &&& b)
  have m4 := BitVec.toInt_eq_msb_cond (a ^^^ b)
  rw [BitVec.msb_and] at m3
  rw [BitVec.msb_xor] at m4
  rw [BitVec.toNat_and] at m3
  rw [BitVec.toNat_xor] at m4
  rw [m1, m2, m3, m4]
  cases a.msb <;> cases b.msb <;> simp <;> omega
theorem bits_mean {x y : Int} (hx : -9223372036854775808 ≤ x ∧ x ≤ 9223372036854775807) (hy : -9223372036854775808 ≤ y ∧ y ≤ 9223372036854775807) :
    bits .and .i64 x y + bits .xor .i64 x y / 2 = (x + y) / 2 := by
  have := bits_sum hx hy
  omega
end Go.Proofs.Ytjapjfcennemeaa.wid
end
section
namespace Go.Proofs.Ytjapjfcennemeaa.made
open Go.RowKit Go.Proofs.Ytjapjfcennemeaa.mem
set_option linter.unusedVariables false
set_option maxHeartbeats 1000000 in
theorem Mod_any (a n : Int) (w : World) (ha : -9223372036854775808 ≤ a ∧ a ≤ 9223372036854775807) (hn : 1 ≤ n) (hn2 : n ≤ 4611686018427387904) :
    Calls Try.prog 38 #[.int .i64 a, .int .i64 n] w fun e w' => e = .returned (.int .i64 (a % n)) ∧ w = w' := by
  obtain ⟨a1, a2⟩ := ha
  have e1 : a.tmod n = if 0 ≤ a ∨ a % n = 0 then a % n else a % n - n := by
    rw [Int.tmod_eq_emod]
    have : n ∣ a ↔ a % n = 0 := Int.dvd_iff_emod_eq_zero
    simp only [this]
    by_cases hc : 0 ≤ a ∨ a % n = 0
    · rw [if_pos hc, if_pos hc]; simp
    · rw [if_neg hc, if_neg hc]; omega
  have h0 : 0 ≤ a % n := Int.emod_nonneg _ (by omega)
  have h1 : a % n < n := Int.emod_lt_of_pos _ (by omega)
  have HE := Lib.hid e1
  clear e1
  by_cases hneg : 0 ≤ a
  · go_enter Try.func38, Try.ntmps38
    go_wp2
    go_ret
    exact ⟨rfl, rfl⟩
  · by_cases hz : a % n = 0
    · have ht : a.tmod n = 0 := by rw [HE.out, if_pos (.inr hz), hz]
      have HZ := Lib.hid hz
      clear hz h0 h1
      go_enter Try.func38, Try.ntmps38
      go_wp2
      go_ret
      exact ⟨ret_int HZ.out.symm, rfl⟩
    · have ht : a.tmod n = a % n - n := by rw [HE.out, if_neg (by omega)]
      generalize a % n = r at *
      have HQ := Lib.hid ht
      have hq1 : a.tmod n < 0 := by omega
      have hq2 : 0 ≤ a.tmod n + n := by omega
      have hq3 : a.tmod n + n ≤ 4611686018427387904 := by omega
      clear ht h0 h1 hz
      go_enter Try.func38, Try.ntmps38
      go_wp2
      go_ret
      exact ⟨ret_int (by rw [HQ.out]; omega), rfl⟩
set_option maxHeartbeats 1000000 in
theorem Int_any (a n : Int) (w : World) (ha : -9223372036854775808 ≤ a ∧ a ≤ 9223372036854775807) (hn : 1 ≤ n) (hn2 : n ≤ 4611686018427387904) :
    Calls Try.prog 24 #[.int .i64 a, .int .i64 n] w fun e w' => e = .returned (.int .i64 (a % n)) ∧ w = w' := by
  have hM := Lib.hid (Mod_any a n w ha hn hn2)
  have h0 : 0 ≤ a % n := Int.emod_nonneg _ (by omega)
  have h1 : a % n < n := Int.emod_lt_of_pos _ (by omega)
  generalize a % n = r at *
  obtain ⟨a1, a2⟩ := ha
  go_enter Try.func24, Try.ntmps24
  go_wp2_with (go_at_call 38; refine hM.out.mono ?_; rintro e w' ⟨rfl, rfl⟩)
  go_ret
  exact ⟨rfl, rfl⟩
end Go.Proofs.Ytjapjfcennemeaa.made
end
section
namespace Go.Proofs.Ytjapjfcennemeaa.lst
open Go.RowKit Go.Proofs.Ytjapjfcennemeaa.mem
set_option linter.unusedVariables false
def NewF (ys : List (Int × Int)) (w : World) (e : Ending) (w' : World) : Prop :=
  ∃ A m c, e = .returned (.slice A m c) ∧ m ≤ c ∧ (c ≤ maxLen ∧ ∀ ad, A = some ad → w.heap.size ≤ ad.block) ∧ PRead w' w'.heap.size A m ys ∧ Below w.heap.size w w'
theorem own_new {w : World} {base : Nat} {e : TypeId} {size n c : Nat} {A : Option Addr} {xs : List Value} (h : w.ownsRow base e size (.slice A n c) n xs) : ∀ ad, A = some ad → base ≤ ad.block := by
  rintro ad rfl
  exact own_block_ge h ad.block rfl
theorem newF_own {w w1 : World} {base : Nat} {e : TypeId} {v : Value} {n : Nat} {ys : List (Int × Int)} {xs : List Value} (hb : Below w.heap.size w w1) (hown : w1.ownsRow base e 2 v n xs) (hx : xs = pc ys)
    (hbase : w.heap.size ≤ base := by first | exact Nat.le_refl _ | omega | (simp; omega)) : NewF ys w (.returned v) w1 := by
  obtain ⟨A, c, rfl, h1, h2, h3⟩ := own_form hown
  subst hx
  exact ⟨A, n, c, rfl, h1, ⟨h2, fun ad h => Nat.le_trans hbase (own_new hown ad h)⟩, h3, hb⟩
end Go.Proofs.Ytjapjfcennemeaa.lst
end
section
namespace Go.Proofs.Ytjapjfcennemeaa.made
open Go.RowKit Go.Proofs.Ytjapjfcennemeaa.mem
set_option linter.unusedVariables false
set_option linter.unusedSimpArgs false
set_option maxHeartbeats 2000000 in
set_option maxRecDepth 100000 in
theorem Window_any (a b c : Int) (w : World) (ha : -9223372036854775808 ≤ a ∧ a ≤ 9223372036854775807) (hb : -9223372036854775808 ≤ b ∧ b ≤ 9223372036854775807) (hc : -9223372036854775808 ≤ c ∧ c ≤ 9223372036854775807) :
    Calls Try.prog 59 #[.int .i64 a, .int .i64 b, .int .i64 c] w fun e w' => (∃ p : Int, e = .returned (.tuple #[.int .i64 (1 + a % 25), .int .i64 (1 + b % 4), .int .i64 p]) ∧ 1 ≤ p ∧ p ≤ 65536) ∧ w = w' := by
  have M1 := Lib.hid (fun W => Mod_any c 40 W hc (by omega) (by omega))
  have M2 := Lib.hid (fun W => Mod_any c 4 W hc (by omega) (by omega))
  have M3 := Lib.hid (fun W => Mod_any a 25 W ha (by omega) (by omega))
  have M4 := Lib.hid (fun W => Int_any b 4 W hb (by omega) (by omega))
  have b1 : 0 ≤ c % 40 ∧ c % 40 < 40 := ⟨Int.emod_nonneg _ (by omega), Int.emod_lt_of_pos _ (by omega)⟩
  have b3 : 0 ≤ a % 25 ∧ a % 25 < 25 := ⟨Int.emod_nonneg _ (by omega), Int.emod_lt_of_pos _ (by omega)⟩
  have b4 : 0 ≤ b % 4 ∧ b % 4 < 4 := ⟨Int.emod_nonneg _ (by omega), Int.emod_lt_of_pos _ (by omega)⟩
  obtain ⟨b1, b1'⟩ := b1
  obtain ⟨b3, b3'⟩ := b3
  obtain ⟨b4, b4'⟩ := b4
  clear ha hb hc
  generalize c % 40 = x1 at *
  generalize c % 4 = x2 at *
  generalize a % 25 = x3 at *
  generalize b % 4 = x4 at *
  have w1 : IntKind.i64.wrap (1 + x1) = 1 + x1 := IntWalk.i64_in _ (by omega)
  have w3 : IntKind.i64.wrap (1 + x3) = 1 + x3 := IntWalk.i64_in _ (by omega)
  have w4 : IntKind.i64.wrap (1 + x4) = 1 + x4 := IntWalk.i64_in _ (by omega)
  by_cases h0 : x2 = 0
  · have q0 : (x2 == 0) = true := by simpa using h0
    clear h0
    go_enter Try.func59, Try.ntmps59
    go_wp2_with fail
    (with_reducible refine (M1.out _).mono ?_)
    rintro e w1 ⟨rfl, rfl⟩
    go_wp2_with fail
    (with_reducible refine (M2.out _).mono ?_)
    rintro e w1 ⟨rfl, rfl⟩
    go_wp2_with fail
    (with_reducible refine (M3.out _).mono ?_)
    rintro e w1 ⟨rfl, rfl⟩
    go_wp2_with fail
    (with_reducible refine (M4.out _).mono ?_)
    rintro e w1 ⟨rfl, rfl⟩
    go_wp2
    go_ret3
    exact ⟨⟨_, rfl, by omega, by omega⟩, rfl⟩
  · have q0 : (x2 == 0) = false := by simpa using h0
    by_cases h1 : x2 = 1
    · have q1 : (x2 == 1) = true := by simpa using h1
      clear h0 h1
      go_enter Try.func59, Try.ntmps59
      go_wp2_with fail
      (with_reducible refine (M1.out _).mono ?_)
      rintro e w1 ⟨rfl, rfl⟩
      go_wp2_with fail
      (with_reducible refine (M2.out _).mono ?_)
      rintro e w1 ⟨rfl, rfl⟩
      go_wp2_with fail
      (with_reducible refine (M3.out _).mono ?_)
      rintro e w1 ⟨rfl, rfl⟩
      go_wp2_with fail
      (with_reducible refine (M4.out _).mono ?_)
      rintro e w1 ⟨rfl, rfl⟩
      go_wp2
      go_ret3
      exact ⟨⟨_, rfl, by omega, by omega⟩, rfl⟩
    · have q1 : (x2 == 1) = false := by simpa using h1
      clear h0 h1
      go_enter Try.func59, Try.ntmps59
      go_wp2_with fail
      (with_reducible refine (M1.out _).mono ?_)
      rintro e w1 ⟨rfl, rfl⟩
      go_wp2_with fail
      (with_reducible refine (M2.out _).mono ?_)
      rintro e w1 ⟨rfl, rfl⟩
      go_wp2_with fail
      (with_reducible refine (M3.out _).mono ?_)
      rintro e w1 ⟨rfl, rfl⟩
      go_wp2_with fail
      (with_reducible refine (M4.out _).mono ?_)
      rintro e w1 ⟨rfl, rfl⟩
      go_wp2
      go_ret3
      exact ⟨⟨_, rfl, by omega, by omega⟩, rfl⟩
end Go.Proofs.Ytjapjfcennemeaa.made
end
