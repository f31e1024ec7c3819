/- PruV, PutK, BExp: proved here in one text, no conditions beyond those that each theorem states. -/
import Derived.Deep.QuietTactic
import Derived.BigQuiet
import Derived.Deep.LoopGhost
import Derived.LoopTactic
import Derived.Outline
import Derived.OwnWalk
import Derived.Test.YtjapjfcennemeaaZ4
import Derived.Test.YtjapjfcennemeaaZ6
import Derived.Test.YtjapjfcennemeaaZ5
import Derived.Test.YtjapjfcennemeaaZ1
set_option linter.unusedVariables false
set_option linter.unusedSimpArgs false
section
namespace Go.Proofs.Ytjapjfcennemeaa.rnk
open Go.Proofs.Ytjapjfcennemeaa.mem
set_option linter.unusedVariables false
theorem forTo_min {es : L3} {r : Int} : ∀ n, forTo es r n ≤ n ∧ (0 < n → forTo es r n < n) ∧ ∀ i < n, far (at3 es (forTo es r n)) r ≤ far (at3 es i) r
  | 0 => ⟨Nat.le_refl _, fun h => h, fun i hi => absurd hi (by omega)⟩
  | n + 1 => by
    obtain ⟨h1, h2, h3⟩ := forTo_min (es := es) (r := r) n
    unfold forTo
    split
    · rename_i h
      refine ⟨by omega, fun _ => by omega, fun i hi => ?_⟩
      by_cases e : i = n
      · subst e; exact Int.le_refl _
      · have := h3 i (by omega); omega
    · rename_i h
      refine ⟨by omega, fun _ => by omega, fun i hi => ?_⟩
      by_cases e : i = n
      · subst e; omega
      · exact h3 i (by omega)
theorem forN_min {es : L3} {r : Int} (h0 : 0 < es.length) : forN es r < es.length ∧ ∀ i < es.length, far (at3 es (forN es r)) r ≤ far (at3 es i) r := by
  obtain ⟨h1, h2, h3⟩ := forTo_min (es := es) (r := r) es.length
  exact ⟨h2 h0, h3⟩
section
variable {N : Int} {es : L3}
theorem near_ex (h : valR N es = true) (h0 : 0 < es.length) {r : Int} (hr : 1 ≤ r) (hr2 : r ≤ N) : ∃ i < es.length, 2 * far (at3 es i) r ≤ gapTo es (es.length - 1) := by
  obtain ⟨_, h2, h3⟩ := valR_iff.1 h
  obtain ⟨h4, h5⟩ := h3 h0
  have hg := gap_one (x := es) (es.length - 1)
  have hl := h2 (es.length - 1) (by omega)
  have hf := h2 0 h0
  suffices H : ∀ n, n < es.length → 2 * r < (at3 es n).2.1 + (at3 es n).2.2 → ∃ i < es.length, 2 * far (at3 es i) r ≤ gapTo es (es.length - 1) by
    by_cases e : 2 * r < (at3 es (es.length - 1)).2.1 + (at3 es (es.length - 1)).2.2
    · exact H _ (by omega) e
    · refine ⟨es.length - 1, by omega, ?_⟩
      unfold far
      omega
  intro n
  induction n with
  | zero => intro _ h6; omega
  | succ n ih =>
    intro hn h6
    by_cases e : 2 * r < (at3 es n).2.1 + (at3 es n).2.2
    · exact ih (by omega) e
    · have h7 := gap_ge (x := es) (es.length - 1) (n + 1) (by omega) (by omega)
      rw [Nat.add_sub_cancel] at h7
      have h8 := h2 (n + 1) hn
      have h9 := h2 n (by omega)
      by_cases e2 : 2 * far (at3 es n) r ≤ gapTo es (es.length - 1)
      · exact ⟨n, by omega, e2⟩
      · refine ⟨n + 1, hn, ?_⟩
        unfold far at *
        omega
theorem near_for (h : valR N es = true) (h0 : 0 < es.length) {r : Int} (hr : 1 ≤ r) (hr2 : r ≤ N) : 2 * far (at3 es (forN es r)) r ≤ gapTo es (es.length - 1) := by
  obtain ⟨i, hi, h1⟩ := near_ex h h0 hr hr2
  have := (forN_min (r := r) h0).2 i hi
  omega
theorem min_lt (h : valR N es = true) {i j : Nat} (hij : i < j) (hj : j < es.length) : (at3 es i).2.1 < (at3 es j).2.1 ∧ (at3 es i).2.2 < (at3 es j).2.2 := by
  induction j with
  | zero => omega
  | succ j ih =>
    have h1 := strict_of_val h j hj
    by_cases e : i = j
    · subst e; exact h1
    · have := ih (by omega) (by omega); omega
theorem forN_first (h : valR N es = true) (h0 : 0 < es.length) : forN es 1 = 0 := by
  obtain ⟨h1, h2⟩ := forN_min (r := 1) h0
  obtain ⟨_, h3, h4⟩ := valR_iff.1 h
  have h5 := h2 0 h0
  have h6 := (h4 h0).1
  have h7 := (h3 0 h0).1
  rcases Nat.eq_zero_or_pos (forN es 1) with e | e
  · exact e
  · have := min_lt h e h1
    unfold far at h5
    omega
theorem forN_last (h : valR N es = true) (h0 : 0 < es.length) : forN es N = es.length - 1 := by
  obtain ⟨h1, h2⟩ := forN_min (r := N) h0
  obtain ⟨_, h3, h4⟩ := valR_iff.1 h
  have h5 := h2 (es.length - 1) (by omega)
  have h6 := (h4 h0).2
  have h7 := (h3 (es.length - 1) (by omega)).1
  rcases Nat.lt_or_ge (forN es N) (es.length - 1) with e | e
  · have := min_lt h e (by omega)
    unfold far at h5
    omega
  · omega
end
theorem ceilD_ge {a b : Int} (hb : 1 ≤ b) : a ≤ ceilD a b * b := by
  unfold ceilD
  have h1 := Int.emod_add_mul_ediv (a + b - 1) b
  have h2 := Int.emod_lt_of_pos (a + b - 1) (show 0 < b by omega)
  rw [Int.mul_comm] at h1
  generalize (a + b - 1) / b * b = q at *
  omega
theorem tgt_step {N b : Int} (hb : 1 ≤ b) (i : Nat) : tgt N b (i + 1) ≤ tgt N b i + ceilD (N - 1) b := by
  unfold tgt
  have h1 := ceilD_ge (a := N - 1) hb
  have h2 : ((i + 1 : Nat) : Int) * (N - 1) ≤ (i : Int) * (N - 1) + ceilD (N - 1) b * b := by
    rw [Int.natCast_add, Int.add_mul]; simp; omega
  have h3 := Int.ediv_le_ediv (show 0 < b by omega) h2
  rw [Int.add_mul_ediv_right _ _ (show b ≠ 0 by omega)] at h3
  omega
structure Kept (es : L3) (G : Int) (s : Nat) (o : L3) : Prop where
  pos : 0 < o.length
  first : at3 o 0 = at3 es 0
  last : at3 o (o.length - 1) = at3 es s
  ex : ∀ k < o.length, ∃ p < es.length, at3 o k = at3 es p
  step : ∀ k, k + 1 < o.length → ∃ p q, p < q ∧ q < es.length ∧ at3 o k = at3 es p ∧ at3 o (k + 1) = at3 es q ∧ (at3 es q).2.2 - (at3 es p).2.1 ≤ G
theorem at3_app {o : L3} {e : Int × Int × Int} {k : Nat} (h : k < o.length) : at3 (o ++ [e]) k = at3 o k := by simp [at3, List.getElem?_append_left h]
theorem at3_end {o : L3} {e : Int × Int × Int} : at3 (o ++ [e]) o.length = e := by simp [at3]
theorem Kept.snoc {es : L3} {G : Int} {s q : Nat} {o : L3} (h : Kept es G s o) (hs : s < q) (hq : q < es.length) (hg : (at3 es q).2.2 - (at3 es s).2.1 ≤ G) : Kept es G q (o ++ [at3 es q]) := by
  have h0 := h.pos
  refine ⟨by simp, by rw [at3_app h0]; exact h.first, by rw [List.length_append]; exact at3_end, fun k hk => ?_, fun k hk => ?_⟩
  · rw [List.length_append] at hk
    simp at hk
    by_cases e : k < o.length
    · rw [at3_app e]; exact h.ex k e
    · obtain rfl : k = o.length := by omega
      exact ⟨q, hq, at3_end⟩
  · rw [List.length_append] at hk
    simp at hk
    by_cases e : k + 1 < o.length
    · rw [at3_app e, at3_app (by omega)]; exact h.step k e
    · have e2 : k = o.length - 1 := by omega
      refine ⟨s, q, hs, hq, by rw [at3_app (by omega), e2]; exact h.last, ?_, hg⟩
      rw [show k + 1 = o.length by omega]; exact at3_end
theorem pru_kept {N b : Int} {es : L3} (h : valR N es = true) (h0 : 0 < es.length) (hN : 1 ≤ N) (hN2 : N ≤ 1099511627776) (hb : 1 ≤ b) : ∀ i : Nat, (i : Int) ≤ b → Kept es (gapTo es (es.length - 1) + ceilD (N - 1) b) (pruTo N b es (i + 1)).2.1 (pruTo N b es (i + 1)).2.2 ∧ (pruTo N b es (i + 1)).2.1 = forN es (tgt N b i)
  | 0, hi => by
    have h1 := (pru_eq (strict_of_val h) h0 hN hb 0).2.2.1
    have h2 : place es (tgt N b 0) 0 = forN es (tgt N b 0) := (place_for (strict_of_val h) (tgt N b 0) _ 0 rfl h0 (fun i hi => absurd hi (by omega))).1
    have h3 : tgt N b 0 = 1 := by simp [tgt]
    have h4 : pruTo N b es (0 + 1) = (((place es (tgt N b 0) 0 : Nat) : Int), place es (tgt N b 0) 0, [] ++ [at3 es (place es (tgt N b 0) 0)]) := pruTo_new (i := 0) rfl (by omega)
    rw [h4, h2, h3, forN_first h h0]
    refine ⟨⟨by simp, rfl, rfl, fun k hk => ⟨0, h0, ?_⟩, fun k hk => absurd hk (by simp)⟩, rfl⟩
    simp at hk; subst hk; rfl
  | i + 1, hi => by
    obtain ⟨h1, h2⟩ := pru_kept h h0 hN hN2 hb i (by omega)
    obtain ⟨_, h3, h4, _, _⟩ := pru_eq (strict_of_val h) h0 hN hb (i + 1)
    have h4' := (pru_eq (strict_of_val h) h0 hN hb (i + 1)).2.2.2.1 (by omega)
    rcases hp : pruTo N b es (i + 1) with ⟨l, s, o⟩
    rw [hp] at h1 h2 h3 h4 h4'
    simp only at h1 h2 h3 h4 h4'
    have h5 := (place_for (strict_of_val h) (tgt N b (i + 1)) _ s rfl h3 h4).1
    have h6 := place_lt (n := tgt N b (i + 1)) h3
    by_cases e : ((place es (tgt N b (i + 1)) s : Nat) : Int) = l
    · rw [pruTo_same hp e]
      have e2 : place es (tgt N b (i + 1)) s = s := by omega
      rw [e2] at h5 ⊢
      exact ⟨h1, h5⟩
    · rw [pruTo_new hp e]
      show Kept es (gapTo es (es.length - 1) + ceilD (N - 1) b) (place es (tgt N b (i + 1)) s) (o ++ [at3 es (place es (tgt N b (i + 1)) s)]) ∧ place es (tgt N b (i + 1)) s = forN es (tgt N b (i + 1))
      refine ⟨h1.snoc (by omega) h6.2 ?_, h5⟩
      have t1 := tgt_bd (i := i) hN hN2 hb (by omega)
      have t2 := tgt_bd (i := i + 1) hN hN2 hb hi
      have n1 := near_for h h0 t1.1 t1.2
      have n2 := near_for h h0 t2.1 t2.2
      have t3 := tgt_step (N := N) hb i
      rw [← h5] at n2
      rw [← h2] at n1
      unfold far at n1 n2
      omega
theorem kept_valid {N : Int} {es o : L3} {G : Int} (h : valR N es = true) (h0 : 0 < es.length) (hk : Kept es G (es.length - 1) o) : valR N o = true := by
  obtain ⟨⟨h1, h2, h3⟩, h4, h5⟩ := valR_iff.1 h
  have hp := hk.pos
  refine valR_iff.2 ⟨⟨h1, h2, ⟨fun e => by omega, fun e => by have := h3.2 e; omega⟩⟩, fun k hkl => ⟨?_, fun hk0 => ?_⟩, fun _ => ?_⟩
  · obtain ⟨p, hpl, e⟩ := hk.ex k hkl
    rw [e]; exact (h4 p hpl).1
  · obtain ⟨k, rfl⟩ : ∃ t, k = t + 1 := ⟨k - 1, by omega⟩
    rw [Nat.add_sub_cancel]
    obtain ⟨p, q, hpq, hq, e1, e2, _⟩ := hk.step k hkl
    rw [e1, e2]
    have := min_lt h hpq hq
    exact ⟨asc_of_val h p q (by omega) hq, this.1, this.2⟩
  · rw [hk.first, hk.last]; exact h5 h0
theorem kept_gap {N : Int} {es o : L3} {G : Int} {s : Nat} (hG : 1 ≤ G) (hk : Kept es G s o) : gapTo o (o.length - 1) ≤ G := by
  have hp := hk.pos
  refine gap_le hG _ fun i h0 hi => ?_
  obtain ⟨i, rfl⟩ : ∃ t, i = t + 1 := ⟨i - 1, by omega⟩
  rw [Nat.add_sub_cancel]
  obtain ⟨p, q, _, _, e1, e2, h⟩ := hk.step i (by omega)
  rw [e1, e2]; exact h
theorem pru_valid {N b : Int} {es : L3} (h : valR N es = true) (hb : 1 ≤ b) (hl : ¬ (es.length : Int) ≤ b + 1) : Kept es (gapTo es (es.length - 1) + ceilD (N - 1) b) (es.length - 1) (pruL N b es) := by
  obtain ⟨⟨a1, a2, a3⟩, a4, a5⟩ := valR_iff.1 h
  have h0 : 0 < es.length := by omega
  have hN : 1 ≤ N := by have : N ≠ 0 := fun e => by have := a3.2 e; omega
                        omega
  obtain ⟨h1, h2⟩ := pru_kept h h0 hN a2 hb b.toNat (by omega)
  have h3 : tgt N b b.toNat = N := by
    unfold tgt
    rw [show ((b.toNat : Nat) : Int) = b by omega, Int.mul_ediv_cancel_left _ (by omega)]
    omega
  rw [h3, forN_last h h0] at h2
  unfold pruL
  rw [if_neg hl]
  rw [h2] at h1
  exact h1
theorem pruL_valid {N b : Int} {es : L3} (h : valR N es = true) (hb : 1 ≤ b) : valR N (pruL N b es) = true := by
  by_cases hl : (es.length : Int) ≤ b + 1
  · unfold pruL; rw [if_pos hl]; exact h
  · exact kept_valid h (by omega) (pru_valid h hb hl)
theorem pruL_le {N b : Int} {es : L3} (h : valR N es = true) (hb : 1 ≤ b) : ((pruL N b es).length : Int) ≤ b + 1 := by
  by_cases hl : (es.length : Int) ≤ b + 1
  · unfold pruL; rw [if_pos hl]; exact hl
  · unfold pruL; rw [if_neg hl]
    have := (pruTo_lt (N := N) (b := b) (show 0 < es.length by omega) (b.toNat + 1)).2
    omega
theorem ceilD_nn {a b : Int} (ha : 0 ≤ a) (hb : 1 ≤ b) : 0 ≤ ceilD a b := Int.ediv_nonneg (by omega) (by omega)
theorem pruL_gap {N b : Int} {es : L3} (h : valR N es = true) (hb : 1 ≤ b) (hN : 1 ≤ N) : gapTo (pruL N b es) ((pruL N b es).length - 1) ≤ gapTo es (es.length - 1) + ceilD (N - 1) b := by
  have h1 := ceilD_nn (a := N - 1) (b := b) (by omega) hb
  have h2 := gap_one (x := es) (es.length - 1)
  by_cases hl : (es.length : Int) ≤ b + 1
  · unfold pruL; rw [if_pos hl]; omega
  · exact kept_gap (N := N) (by omega) (pru_valid h hb hl)
end Go.Proofs.Ytjapjfcennemeaa.rnk
end
section
namespace Go.Proofs.Ytjapjfcennemeaa.rnk
open Go.Proofs.Ytjapjfcennemeaa.mem Go.Proofs.Ytjapjfcennemeaa.buk
set_option linter.unusedVariables false
theorem plainK_append (xs ys : List K5) : plainK (xs ++ ys) = plainK xs ++ plainK ys := by simp [plainK]
def entsK (xs : List K5) : Nat := (xs.map fun x => x.2.2.2.2.length).sum
theorem pruL_len {N b : Int} {es : L3} (hb : 0 ≤ b) : (pruL N b es).length ≤ es.length := by
  unfold pruL
  split
  · exact Nat.le_refl _
  · rename_i h
    have := (pruTo_lt (N := N) (b := b) (show 0 < es.length by omega) (b.toNat + 1)).2
    omega
theorem twoR_len (b : Int) (x y : K5) : (twoR b x y).2.length ≤ x.2.2.2.2.length + y.2.2.2.2.length := by
  unfold twoR pruP
  split
  · rename_i h
    have hb : 0 ≤ b := by unfold pruOk at h; simp only [Bool.and_eq_true, decide_eq_true_eq] at h; omega
    refine Nat.le_trans (pruL_len hb) ?_
    unfold mrgP
    split
    · rw [mergeL, mrg_length]; exact Nat.le_refl _
    · exact Nat.zero_le _
  · exact Nat.zero_le _
theorem joinK_ents {b : Int} {xs : List K5} {s : Nat} {l : Int} (h : s + 1 < xs.length) : entsK (joinK b xs s l) ≤ entsK xs := by
  have e1 : xs = xs.take s ++ xs[s] :: xs[s + 1] :: xs.drop (s + 2) := by
    rw [← List.drop_eq_getElem_cons (by omega), ← List.drop_eq_getElem_cons (by omega), List.take_append_drop]
  have h1 : atK xs s = xs[s] := by simp [atK, List.getElem?_eq_getElem (show s < xs.length by omega)]
  have h2 : atK xs (s + 1) = xs[s + 1] := by simp [atK, List.getElem?_eq_getElem h]
  have h3 := twoR_len b xs[s] xs[s + 1]
  have e2 : entsK xs = entsK (xs.take s ++ xs[s] :: xs[s + 1] :: xs.drop (s + 2)) := by rw [← e1]
  rw [e2]
  unfold joinK bothK entsK
  rw [h1, h2]
  simp only [List.map_append, List.map_cons, List.sum_append, List.sum_cons]
  omega
end Go.Proofs.Ytjapjfcennemeaa.rnk
end
section
namespace Go.Proofs.Ytjapjfcennemeaa.blk
open Go.RowKit Go.Proofs.Ytjapjfcennemeaa.mem
set_option linter.unusedVariables false
theorem block_info : (Try.prog.info? 64).map (fun i => (i.zero, i.size, i.bytes)) = some (some (.agg #[.int .i64 0, .int .i64 0, .int .i64 0, .int .i64 0, .slice none 0 0]), 5, 56) := by kernel_rfl
theorem entry_info : (Try.prog.info? 94).map (fun i => (i.zero, i.size, i.bytes)) = some (some (.agg #[.int .i64 0, .int .i64 0, .int .i64 0]), 3, 24) := by kernel_rfl
def expireB (f : Int) (xs : List BlkM) : List BlkM := xs.dropWhile (fun p => decide (p.t < f))
theorem expB_yes {f : Int} {b : BlkM} {xs : List BlkM} (h : b.t < f) : expireB f (b :: xs) = expireB f xs := by simp [expireB, List.dropWhile, h]
theorem expB_no {f : Int} {b : BlkM} {xs : List BlkM} (h : ¬ b.t < f) : expireB f (b :: xs) = b :: xs := by simp [expireB, List.dropWhile, h]
def NewB (ys : List BlkM) (w : World) (e : Ending) (w' : World) : Prop :=
  ∃ A m c, e = .returned (.slice A m c) ∧ m ≤ c ∧ (c ≤ maxLen ∧ ∀ ad, A = some ad → w.heap.size ≤ ad.block) ∧ BRead w' w'.heap.size A m ys ∧ Below w.heap.size w w'
theorem newB_of_own {w W w1 : World} {base : Nat} {e : TypeId} {v : Value} {n : Nat} {ys : List BlkM} {xs : List Value} {row : Option Nat} (hb : Below w.heap.size w W) (hown : w1.ownsRow base e 5 v n xs) (hx : xs = bc ys)
    (hE : ∀ b ∈ ys, ERead w w.heap.size b.adr b.en b.es ∧ b.en ≤ b.ec ∧ b.ec ≤ maxLen) (hg : W.grownBy w1 row) (hr : ∀ k, row = some k → w.heap.size ≤ k) (hbase : w.heap.size ≤ base := by first | exact Nat.le_refl _ | omega | (simp; omega)) : NewB ys w (.returned v) w1 := by
  obtain ⟨A, c, rfl, h1, h2, h3⟩ := own_form hown
  subst hx
  have hB := hb.grown hg hb.size hr
  exact ⟨A, n, c, rfl, h1, ⟨h2, fun ad h => Nat.le_trans hbase (by subst h; exact own_block_ge hown ad.block rfl)⟩, ⟨h3, fun b hx => ⟨((hE b hx).1.below hB).more hB.size, (hE b hx).2⟩⟩, hB⟩
set_option maxHeartbeats 2000000 in
theorem Expire_b (A : Option Addr) (n c : Nat) (xs : List BlkM) (f : Int) (w : World) (h1 : BRead w w.heap.size A n xs) (hnc : n ≤ c) (hcm : c ≤ maxLen) (hsmall : n ≤ 65536) :
    Calls Try.prog 29 #[.slice A n c, .int .i64 f] w (NewB (expireB f xs) w) := by
  have hcm9 : c ≤ 9223372036854775807 := hcm
  clear hcm
  have H1 := Lib.hid h1
  have HEn := Lib.hid (fun b (hb : b ∈ expireB f xs) => h1.2 b ((List.dropWhile_sublist _).mem hb))
  clear h1
  obtain ⟨i0, hi0, hz0, hz1, hz2⟩ := info_parts block_info
  have HI := Lib.hid hi0
  have HZ0 := Lib.hid hz0
  have HZ1 := Lib.hid hz1
  have HZ2 := Lib.hid hz2
  clear hi0 hz0 hz1 hz2
  go_enter Try.func29, Try.ntmps29
  go_wp2
  go_loop [0] (fun s => ∃ (m c' : Nat) (A' : Option Addr) (ys : List BlkM), s = .slice A' m c' ∧ m ≤ n ∧ m ≤ c' ∧ c' ≤ 9223372036854775807 ∧ Hid (BRead w w.heap.size A' m ys) ∧ Hid (expireB f ys = expireB f xs)) (fun s => match s with | .slice _ m _ => m | _ => 0)
  case atStart => exact ⟨n, c, A, xs, rfl, Nat.le_refl _, hnc, hcm9, H1, (rfl : expireB f xs = expireB f xs)⟩
  case round =>
    obtain ⟨m, c', A', ys, rfl, hmn, hmc, hcm', H, HE⟩ := hrel
    have HL := Lib.hid H.out.len
    have HA : Hid (∀ b, Reads (w.alloc b) (w.alloc b).heap.size 5 A' m (bc ys)) := fun b => (H.out.1.alloc (Nat.le_refl _) b).more (by simp)
    by_cases hm : 0 < m
    · cases ys with
      | nil => have := HL.out; simp at this; omega
      | cons b ys =>
      obtain ⟨ad, rfl, _, hc1⟩ := H.out.first
      have hy := Lib.hid (expB_yes (f := f) (b := b) (xs := ys))
      have hn := Lib.hid (expB_no (f := f) (b := b) (xs := ys))
      obtain ⟨z, hz0⟩ : ∃ z, b.t = z := ⟨_, rfl⟩
      rw [hz0] at hc1 hy hn
      clear hz0
      by_cases hz : z < f
      · go_wp2
        refine ⟨⟨m - 1, c' - 1, _, ys, rfl, by omega, by omega, by omega, H.out.tail hm hmc, (hy.out hz).symm.trans HE.out⟩, by show m - 1 < m; omega⟩
      · go_wp2_with (at_builtin; refine wpList_append_any _ rfl (.tmp 18) (.tmp 19) 22 rfl w.heap.size 64 i0 (.agg #[.int .i64 0, .int .i64 0, .int .i64 0, .int .i64 0, .slice none 0 0]) 5 56 Try.underlying22 HI.out HZ0.out HZ1.out HZ2.out rfl (by omega) (.slice (some ⟨w.heap.size, 0, none⟩) 0 0) 0 [] rfl (own_empty w 64) _ (some ad) m c' (bc (b :: ys)) rfl (HA.out _) (bc_oneCell _) (by unfold maxLen; omega) (by omega) (by simp) ?_; intro v1 w1 hown1 hg1 hat1)
        go_ret
        exact newB_of_own ((Below.refl _ _).alloc (Nat.le_refl _) _) hown1 (by rw [← HE.out, hn.out hz]; rfl) HEn.out hg1 (by simp [Value.ownBlock])
    · obtain rfl : m = 0 := by omega
      have e : ys = [] := List.eq_nil_of_length_eq_zero HL.out
      subst e
      go_wp2_with (at_builtin; refine wpList_append_any _ rfl (.tmp 18) (.tmp 19) 22 rfl w.heap.size 64 i0 (.agg #[.int .i64 0, .int .i64 0, .int .i64 0, .int .i64 0, .slice none 0 0]) 5 56 Try.underlying22 HI.out HZ0.out HZ1.out HZ2.out rfl (by omega) (.slice (some ⟨w.heap.size, 0, none⟩) 0 0) 0 [] rfl (own_empty w 64) _ A' 0 c' (bc []) rfl (HA.out _) (bc_oneCell _) (by unfold maxLen; omega) (by omega) (by simp) ?_; intro v1 w1 hown1 hg1 hat1)
      go_ret
      exact newB_of_own ((Below.refl _ _).alloc (Nat.le_refl _) _) hown1 (by rw [← HE.out]; rfl) HEn.out hg1 (by simp [Value.ownBlock])
end Go.Proofs.Ytjapjfcennemeaa.blk
end
