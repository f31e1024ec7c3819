/- QuaL, SurP, SurR, Gcd: proved here in one text, no conditions beyond those that each theorem states. -/
import Derived.Test.YtjapjfcennemeaaGreatZ37
import Derived.Test.YtjapjfcennemeaaGreatZ40
import Derived.Test.YtjapjfcennemeaaGreatZ22
import Derived.Test.YtjapjfcennemeaaGreatZ25
import Derived.Test.YtjapjfcennemeaaGreatZ39
set_option linter.unusedVariables false
set_option linter.unusedSimpArgs false
section
namespace Go.Proofs.YtjapjfcennemeaaGreat.rnk
open Go.Proofs.YtjapjfcennemeaaGreat.mem Go.Proofs.YtjapjfcennemeaaGreat.buk
set_option linter.unusedVariables false
def asksQ (p q : Int) : Prop := 1 ≤ q ∧ 0 ≤ p ∧ p ≤ q
instance (p q : Int) : Decidable (asksQ p q) := by unfold asksQ; infer_instance
def tgtQ (p q N : Int) : Int := max 1 ((p * N + q - 1) / q)
theorem prod_lt {p N : Int} (hp : 0 ≤ p ∧ p ≤ 9223372036854775807) (hN : 0 ≤ N ∧ N ≤ 1099511627776) : p.toNat * N.toNat < 340282366920938463463374607431768211456 := by
  have h : p.toNat * N.toNat ≤ 9223372036854775807 * 1099511627776 := Nat.mul_le_mul (by omega) (by omega)
  omega
theorem ceil_div (m b : Nat) (hb : 0 < b) : ((m / b : Nat) : Int) + (if m % b = 0 then 0 else 1) = ((m : Int) + b - 1) / b := by
  have hd := Nat.div_add_mod m b
  have hm := Nat.mod_lt m hb
  have key : ((m : Int) + b - 1) = (((m % b : Nat) : Int) + b - 1) + (b : Int) * ((m / b : Nat) : Int) := by
    have h := congrArg (Int.ofNat) hd.symm
    have : (m : Int) = (b : Int) * ((m / b : Nat) : Int) + ((m % b : Nat) : Int) := by simpa using h
    omega
  rw [key, Int.add_mul_ediv_left _ _ (by omega)]
  split
  · rename_i h0
    rw [h0, Int.ediv_eq_zero_of_lt (by simp; omega) (by simp; omega)]; omega
  · rename_i h0
    have : (((m % b : Nat) : Int) + b - 1) / b = 1 := by
      have e2 : (((m % b : Nat) : Int) + b - 1) = (((m % b : Nat) : Int) - 1) + (b : Int) * 1 := by omega
      rw [e2, Int.add_mul_ediv_left _ _ (by omega), Int.ediv_eq_zero_of_lt (by omega) (by omega)]
      rfl
    rw [this]; omega
theorem tgtQ_div {p q N : Int} (h : asksQ p q) (hN : 0 ≤ N) : (((p.toNat * N.toNat) / q.toNat : Nat) : Int) + (if p.toNat * N.toNat % q.toNat = 0 then 0 else 1) = (p * N + q - 1) / q := by
  obtain ⟨h1, h2, h3⟩ := h
  obtain ⟨a, rfl⟩ := Int.eq_ofNat_of_zero_le h2
  obtain ⟨b, rfl⟩ := Int.eq_ofNat_of_zero_le (show 0 ≤ q by omega)
  obtain ⟨n, rfl⟩ := Int.eq_ofNat_of_zero_le hN
  have h := ceil_div (a * n) b (by omega)
  rw [show ((a * n : Nat) : Int) = (a : Int) * (n : Int) by simp] at h
  exact h
theorem quo_le {p q N : Int} (h : asksQ p q) (hN : 0 ≤ N) : (p * N + q - 1) / q ≤ N ∧ 0 ≤ (p * N + q - 1) / q := by
  obtain ⟨h1, h2, h3⟩ := h
  have h0 : p * N ≤ q * N := Int.mul_le_mul_of_nonneg_right h3 hN
  have h4 : 0 ≤ p * N := Int.mul_nonneg h2 hN
  refine ⟨?_, Int.ediv_nonneg (by omega) (by omega)⟩
  have : (p * N + q - 1) / q < N + 1 := Int.ediv_lt_of_lt_mul (by omega) (by rw [Int.add_mul, Int.mul_comm N q]; omega)
  omega
theorem tgtQ_bd {p q N : Int} (h : asksQ p q) (hN : 1 ≤ N) : 1 ≤ tgtQ p q N ∧ tgtQ p q N ≤ N := by
  have := quo_le h (show 0 ≤ N by omega)
  unfold tgtQ; omega
def quaV (N : Int) (es : L3) (p q : Int) : Int × Int :=
  if valR N es = true then (if asksQ p q then (if N = 0 then (0, 7) else ((at3 es (place es (tgtQ p q N) 0)).1, 0)) else (0, 1)) else (0, 2)
theorem place_forN {N : Int} {es : L3} (h : valR N es = true) (h0 : 0 < es.length) (r : Int) : place es r 0 = forN es r :=
  (place_for (strict_of_val h) r es.length 0 (by omega) h0 (fun i hi => absurd hi (Nat.not_lt_zero _))).1
theorem sureF_len : ∀ (xs : List K5) (p : Int × L3), (sureF p xs).1.2.length ≤ p.2.length + (xs.map fun x => x.2.2.2.2.length).sum
  | [], p => by simp [sureF]
  | x :: r, p => by
    unfold sureF
    split
    · rename_i h
      have ih := sureF_len r (mrgP p.1 p.2 x.2.2.2.1 x.2.2.2.2)
      have hm : (mrgP p.1 p.2 x.2.2.2.1 x.2.2.2.2).2.length ≤ p.2.length + x.2.2.2.2.length := by
        unfold mrgP
        split
        · show (mergeL _ _ _ _).length ≤ _
          rw [merge_len]; omega
        · simp
      simp only [List.map_cons, List.sum_cons]
      omega
    · simp
end Go.Proofs.YtjapjfcennemeaaGreat.rnk
end
section
namespace Go.Proofs.YtjapjfcennemeaaGreat.rnk
open Go.RowKit Go.Proofs.YtjapjfcennemeaaGreat.mem Go.Proofs.YtjapjfcennemeaaGreat.gro
set_option linter.unusedVariables false
theorem sureK_no {xs : List K5} {i : Nat} (hi : i < xs.length) (h : okS (atK xs i) = false) : sureK xs = ((0, []), 2) := by
  unfold sureK; rw [if_neg (by rw [okTo_not h hi]; exact Bool.false_ne_true)]
theorem sureK_yes {x : K5} {r : List K5} (h : okTo (x :: r) (x :: r).length = true) : sureK (x :: r) = sureF (first1 x) r := by unfold sureK; rw [if_pos h]
theorem sureF_nil (p : Int × L3) : sureF p [] = (p, 0) := rfl
theorem sureF_err {N : Int} {es : L3} {x : K5} {r : List K5} (h : ¬ mrgE N es x.2.2.2.1 x.2.2.2.2 = 0) : sureF (N, es) (x :: r) = ((0, []), mrgE N es x.2.2.2.1 x.2.2.2.2) := by unfold sureF; rw [if_neg h]
theorem sureF_ok {N : Int} {es : L3} {x : K5} {r : List K5} (h : mrgE N es x.2.2.2.1 x.2.2.2.2 = 0) : sureF (N, es) (x :: r) = sureF (mrgP N es x.2.2.2.1 x.2.2.2.2) r := by rw [sureF]; rw [if_pos h]
theorem okS_iff {t l v n : Int} {es : L3} : okS (t, l, v, n, es) = true ↔ valR n es = true ∧ 0 ≤ v ∧ v ≤ 30 := by unfold okS; simp
theorem mrgP_len (a b : Int) (x y : L3) : (mrgP a x b y).2.length ≤ x.length + y.length := by
  unfold mrgP
  split
  · show (mergeL x y a b).length ≤ _
    rw [merge_len]; exact Nat.le_refl _
  · exact Nat.zero_le _
theorem drop_atK {xs : List K5} {i : Nat} (h : i < xs.length) : xs.drop i = atK xs i :: xs.drop (i + 1) := by rw [atK_eq h]; exact List.drop_eq_getElem_cons h
theorem ents_drop {xs : List K5} {i : Nat} (h : i < xs.length) : entsK (xs.drop i) = (atK xs i).2.2.2.2.length + entsK (xs.drop (i + 1)) := by rw [drop_atK h]; simp [entsK]
theorem okTo_at {xs : List K5} {n : Nat} (h : okTo xs n = true) {i : Nat} (hi : i < n) : okS (atK xs i) = true := (okTo_iff n).1 h i hi
theorem first1_1 {t l v n : Int} {es : L3} (h : ¬ v = 0) : first1 (t, l, v, n, es) = (1, [(l, 1, 1)]) := by unfold first1; rw [if_neg h]
theorem first1_len (x : K5) : (first1 x).2.length ≤ 1 + x.2.2.2.2.length := by unfold first1; split <;> simp
theorem sureK_len : ∀ xs : List K5, (sureK xs).1.2.length ≤ 1 + entsK xs
  | [] => Nat.zero_le _
  | x :: r => by
    unfold sureK
    split
    · show (sureF (first1 x) r).1.2.length ≤ _
      have h1 := sureF_len r (first1 x)
      have h2 : (first1 x).2.length ≤ 1 + x.2.2.2.2.length := by unfold first1; split <;> simp
      have h3 : entsK (x :: r) = x.2.2.2.2.length + (r.map fun x => x.2.2.2.2.length).sum := by simp [entsK]
      omega
    · exact Nat.zero_le _
theorem ERead.apart {W : World} {B n g : Nat} {A : Option Addr} {es : L3} {t : TypeId} {u v : Value} (h : ERead W B A n es) (hb : Blk W g t #[u, v]) : 0 < n → ∀ ad, A = some ad → ad.block ≠ g := fun h0 ad e he => by
  obtain ⟨ad', e', _, _, _, h3⟩ := ERead.at_ h h0
  rw [e] at e'
  injection e' with e'
  subst e'
  have h4 := hb.cell (ad.off + 2)
  have e5 : ad.add (0 * 3) = ad := by simp [Addr.add]
  rw [e5, he, h4] at h3
  simp at h3
theorem BRead.zero {w : World} {B n : Nat} {A : Option Addr} {xs : List BlkM} (h : BRead w B A n xs) (hn : 0 < n) :
    ∃ ad b, A = some ad ∧ ad.block < B ∧ xs[0]? = some b ∧ Hid (∀ W, Below B w W → W.cell? ad = some (.int .i64 b.t) ∧ W.cell? ⟨ad.block, ad.off + 1, none⟩ = some (.int .i64 b.last) ∧ W.cell? ⟨ad.block, ad.off + 2, none⟩ = some (.int .i64 b.level) ∧ W.cell? ⟨ad.block, ad.off + 3, none⟩ = some (.int .i64 b.num) ∧ W.cell? ⟨ad.block, ad.off + 4, none⟩ = some (.slice b.adr b.en b.ec)) ∧ ERead w B b.adr b.en b.es ∧ b.en ≤ b.ec ∧ b.ec ≤ maxLen := by
  obtain ⟨ad, b, rfl, hb, hx, _, _, _, _, _, hE⟩ := BRead.at_ h hn
  refine ⟨ad, b, rfl, hb, hx, fun W hW => ?_, hE⟩
  obtain ⟨ad', b', e, _, hx', h1, h2, h3, h4, h5, _⟩ := BRead.at_ (h.below hW) hn
  injection e with e
  subst e
  rw [hx] at hx'
  injection hx' with hx'
  subst hx'
  have e5 : ad.add (0 * 5) = ad := by simp [Addr.add]
  rw [e5] at h1 h2 h3 h4 h5
  exact ⟨h1, h2, h3, h4, h5⟩
end Go.Proofs.YtjapjfcennemeaaGreat.rnk
end
section
namespace Go.Proofs.YtjapjfcennemeaaGreat.rnk
open Go.Proofs.YtjapjfcennemeaaGreat.mem
set_option linter.unusedVariables false
def headT : List K5 → List K5
  | [] => []
  | x :: r => ((0 : Int), x.2.1, (0 : Int), first1 x) :: r
def tailR (xs : List K5) (i : Nat) : List K5 := if i = 0 then headT xs else xs.drop i
def rK (x : K5) (i : Nat) : Int × L3 := if i = 0 then first1 x else (x.2.2.2.1, x.2.2.2.2)
theorem rK_0 (x : K5) : rK x 0 = first1 x := rfl
theorem rK_s {x : K5} {i : Nat} (h : ¬ i = 0) : rK x i = (x.2.2.2.1, x.2.2.2.2) := by unfold rK; rw [if_neg h]
theorem rK_len (x : K5) (i : Nat) : (rK x i).2.length ≤ x.2.2.2.2.length + (if i = 0 then 1 else 0) := by
  unfold rK
  split
  · have := first1_len x; omega
  · simp
theorem tailR_end {xs : List K5} {i : Nat} (h : xs.length ≤ i) : tailR xs i = [] := by
  unfold tailR
  split
  · rename_i h0
    subst h0
    have : xs = [] := List.eq_nil_of_length_eq_zero (by omega)
    subst this; rfl
  · exact List.drop_eq_nil_of_le h
theorem tailR_step {xs : List K5} {i : Nat} (h : i < xs.length) : ∃ y : K5, tailR xs i = y :: tailR xs (i + 1) ∧ (y.2.2.2.1, y.2.2.2.2) = rK (atK xs i) i := by
  cases i with
  | zero =>
    cases xs with
    | nil => simp at h
    | cons x r => exact ⟨_, rfl, rfl⟩
  | succ i => exact ⟨atK xs (i + 1), by unfold tailR; rw [if_neg (by omega), if_neg (by omega)]; exact drop_atK h, by rw [rK_s (by omega)]⟩
theorem sureT_err {N : Int} {es : L3} {xs : List K5} {i : Nat} (hi : i < xs.length) (h : ¬ mrgE N es (rK (atK xs i) i).1 (rK (atK xs i) i).2 = 0) : sureF (N, es) (tailR xs i) = ((0, []), mrgE N es (rK (atK xs i) i).1 (rK (atK xs i) i).2) := by
  obtain ⟨y, h1, h2⟩ := tailR_step hi
  rw [← h2] at h ⊢
  rw [h1]
  exact sureF_err h
theorem sureT_ok {N : Int} {es : L3} {xs : List K5} {i : Nat} (hi : i < xs.length) (h : mrgE N es (rK (atK xs i) i).1 (rK (atK xs i) i).2 = 0) : sureF (N, es) (tailR xs i) = sureF (mrgP N es (rK (atK xs i) i).1 (rK (atK xs i) i).2) (tailR xs (i + 1)) := by
  obtain ⟨y, h1, h2⟩ := tailR_step hi
  rw [← h2] at h ⊢
  rw [h1]
  exact sureF_ok h
theorem sure_start : ∀ {xs : List K5}, okTo xs xs.length = true → sureF (0, []) (tailR xs 0) = sureK xs
  | [], _ => rfl
  | x :: r, h => by
    rw [sureK_yes h]
    have h0 := okTo_at h (i := 0) (by simp)
    rw [atK_eq (by simp)] at h0
    refine sure_ref ?_
    unfold first1
    split
    · exact (okS_iff.1 (show okS (x.1, x.2.1, x.2.2.1, x.2.2.2.1, x.2.2.2.2) = true from h0)).1
    · exact val_one _
end Go.Proofs.YtjapjfcennemeaaGreat.rnk
end
section
namespace Go.Proofs.YtjapjfcennemeaaGreat.wid
open Go.RowKit Go.Proofs.YtjapjfcennemeaaGreat.mem Go.Proofs.YtjapjfcennemeaaGreat.gro
set_option linter.unusedVariables false
theorem gcd_step {a b : Nat} (h : b ≠ 0) : Nat.gcd b (divr a b) = Nat.gcd a b := by
  unfold divr; rw [if_neg h, Nat.gcd_comm a b, Nat.gcd_rec b a, Nat.gcd_comm]
set_option maxHeartbeats 2000000 in
set_option maxRecDepth 100000 in
theorem Gcd_any (a b : Nat) (ha : a < 340282366920938463463374607431768211456) (hb : b < 340282366920938463463374607431768211456) (w : World) :
    Calls Tryz.prog 96 #[(Value.agg #[Value.int IntKind.u64 (hi (a)), Value.int IntKind.u64 (lo (a))]), (Value.agg #[Value.int IntKind.u64 (hi (b)), Value.int IntKind.u64 (lo (b))])] w fun e w' => e = .returned (Value.agg #[Value.int IntKind.u64 (hi (Nat.gcd a b)), Value.int IntKind.u64 (lo (Nat.gcd a b))]) ∧ Below w.heap.size w w' := by
  obtain ⟨G, hG⟩ : ∃ G, Nat.gcd a b = G := ⟨_, rfl⟩
  have HG := Lib.hid hG
  rw [hG]
  clear hG
  go_enter Tryz.func96, Tryz.ntmps96
  go_wp2_with fail
  obtain ⟨W0, hW, hs0, K0, B0⟩ := start3 w 84 84 84 #[Value.int IntKind.u64 (hi a), Value.int IntKind.u64 (lo a)] #[Value.int IntKind.u64 (hi b), Value.int IntKind.u64 (lo b)] #[Value.int IntKind.u64 0, Value.int IntKind.u64 0]
  rw [hW]
  clear hW
  have HK0 := Lib.hid K0
  have HB0 := Lib.hid B0
  have z0 : w.heap.size + 1 + 1 + 1 ≤ W0.heap.size := by omega
  clear K0 B0 hs0
  go_loopg [] b (fun kx wr => ∃ x y : Nat, x < 340282366920938463463374607431768211456 ∧ y < 340282366920938463463374607431768211456 ∧ y ≤ kx ∧ w.heap.size + 1 + 1 + 1 ≤ wr.heap.size ∧ Hid (Nat.gcd x y = G) ∧ Hid (Below w.heap.size w wr) ∧
    Hid (Bx wr [(w.heap.size + 1 + 1, 84, #[Value.int IntKind.u64 0, Value.int IntKind.u64 0]), (w.heap.size + 1, 84, #[Value.int IntKind.u64 (hi y), Value.int IntKind.u64 (lo y)]), (w.heap.size, 84, #[Value.int IntKind.u64 (hi x), Value.int IntKind.u64 (lo x)])]))
  case atStart => exact ⟨a, b, ha, hb, Nat.le_refl _, z0, HG, HB0, HK0⟩
  case round =>
    obtain ⟨x, y, hx, hy, hyk, hz, HGx, HBx, HKx⟩ := hrel
    clear HG HB0 HK0 z0 hb ha
    have R := HKx.out.rules
    simp only [Rules] at R
    have HZ := Lib.hid (fun W => zero_any y W)
    by_cases h0 : y = 0
    · subst h0
      rw [decide_eq_true rfl] at HZ
      have hGx : Hid (x = G) := by have := HGx.out; rwa [Nat.gcd_zero_right] at this
      go_wp2_with (go_at_call 83; refine (HZ.out _).mono ?_; rintro e w1 ⟨rfl, hb1⟩; have K1 := HKx.out.below hb1; clear R; have R := K1.rules; simp only [Rules] at R; have HK1 := Lib.hid K1; have HB1 := Lib.hid (HBx.out.trans (hb1.mono (by omega))); clear K1 hb1)
      refine bodyPost_ret (v := (Value.agg #[Value.int IntKind.u64 (hi (x)), Value.int IntKind.u64 (lo (x))])) (by simp [results, Tryz.results96, go_sem, R]) rfl ⟨?_, ?_⟩
      · rw [hGx.out]
      · exact (HB1.out.setCell (by first | (simp; done) | (simp; omega)) _).setCell (by first | (simp; done) | (simp; omega)) _
    · rw [decide_eq_false h0] at HZ
      have HD := Lib.hid (fun W => Div_any x y W hx hy)
      have hGy := Lib.hid ((gcd_step h0).trans HGx.out)
      have hlt : divr x y < y := by unfold divr; rw [if_neg h0]; exact Nat.mod_lt _ (by omega)
      generalize divr x y = rr at *
      generalize divq x y = qq at *
      generalize decide (y ≠ 0) = bb at *
      go_wp2_with fail
      refine (HZ.out _).mono ?_
      rintro e w1 ⟨rfl, hb1⟩
      obtain ⟨K1, B1, z1⟩ := HKx.out.call HBx.out (by omega) hb1
      clear R
      have R := K1.rules
      simp only [Rules] at R
      go_wp2_with fail
      refine (HD.out _).mono ?_
      rintro e w2 ⟨rfl, hb2⟩
      obtain ⟨K2, B2, z2⟩ := K1.call B1 (by omega) hb2
      clear R
      have R := K2.rules
      simp only [Rules] at R
      obtain ⟨s2, hs2⟩ : ∃ s2, w2.heap.size = s2 := ⟨_, rfl⟩
      have HK2 := Lib.hid K2
      have HB2 := Lib.hid B2
      have z3 : w.heap.size + 1 + 1 + 1 ≤ s2 := by omega
      clear K1 B1 K2 B2 hb1 hb2 z1 z2 HKx HBx
      go_wp2_with fail
      go_region
      have KP := (HK2.out.alloc (.cells #[Value.int IntKind.u64 (hi qq), Value.int IntKind.u64 (lo qq)] 84)).alloc (.cells #[Value.int IntKind.u64 (hi rr), Value.int IntKind.u64 (lo rr)] 84)
      have BP := (HB2.out.alloc (by omega) (.cells #[Value.int IntKind.u64 (hi qq), Value.int IntKind.u64 (lo qq)] 84)).alloc (by simp; omega) (.cells #[Value.int IntKind.u64 (hi rr), Value.int IntKind.u64 (lo rr)] 84)
      have sP : w.heap.size + 1 + 1 + 1 ≤ ((w2.alloc (.cells #[Value.int IntKind.u64 (hi qq), Value.int IntKind.u64 (lo qq)] 84)).alloc (.cells #[Value.int IntKind.u64 (hi rr), Value.int IntKind.u64 (lo rr)] 84)).heap.size := by simp; omega
      generalize (w2.alloc (.cells #[Value.int IntKind.u64 (hi qq), Value.int IntKind.u64 (lo qq)] 84)).alloc (.cells #[Value.int IntKind.u64 (hi rr), Value.int IntKind.u64 (lo rr)] 84) = WP at *
      go_wp2_with fail
      go_roundg rr
      case measure => omega
      case rel =>
        refine ⟨y, rr, hy, by omega, by omega, by simp only [World.drew, set2_size]; exact sP, hGy, (((((BP.setCell (by first | (simp; done) | (simp; omega)) _).setCell (by first | (simp; done) | (simp; omega)) _).setCell (by first | (simp; done) | (simp; omega)) _).setCell (by first | (simp; done) | (simp; omega)) _).drew), ?_⟩
        have KQ := KP.perm (L' := [(w.heap.size, 84, #[Value.int IntKind.u64 (hi x), Value.int IntKind.u64 (lo x)]), (w.heap.size + 1, 84, #[Value.int IntKind.u64 (hi y), Value.int IntKind.u64 (lo y)]), (w.heap.size + 1 + 1, 84, #[Value.int IntKind.u64 0, Value.int IntKind.u64 0])]) (by simp)
        exact (Bx.drew (Bx.put2 (Bx.swap (Bx.put2 KQ (by first | (simp; done) | (simp; omega)))) (by first | (simp; done) | (simp; omega)))).perm (by simp)
end Go.Proofs.YtjapjfcennemeaaGreat.wid
end
