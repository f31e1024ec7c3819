/- QuaL, TruL, Cnt8, SurP: proved here in one text, no conditions beyond those that each theorem states. -/
import Derived.LoopN
import Derived.Test.YtjapjfcennemeaaZ11
import Derived.Test.YtjapjfcennemeaaZ17
import Derived.Test.YtjapjfcennemeaaZ12
import Derived.Test.YtjapjfcennemeaaZ13
import Derived.Test.YtjapjfcennemeaaZ22
import Derived.Test.YtjapjfcennemeaaZ24
set_option linter.unusedVariables false
set_option linter.unusedSimpArgs false
section
namespace Go.Proofs.Ytjapjfcennemeaa.rnk
open Go.Proofs.Ytjapjfcennemeaa.mem Go.Proofs.Ytjapjfcennemeaa.buk
set_option linter.unusedVariables false
def asksQ (p q : Int) : Prop := 1 ≤ q ∧ 0 ≤ p ∧ p ≤ q
instance (p q : Int) : Decidable (asksQ p q) := by unfold asksQ; infer_instance
def tgtQ (p q N : Int) : Int := max 1 ((p * N + q - 1) / q)
theorem prod_lt {p N : Int} (hp : 0 ≤ p ∧ p ≤ 9223372036854775807) (hN : 0 ≤ N ∧ N ≤ 1099511627776) : p.toNat * N.toNat < 340282366920938463463374607431768211456 := by
  have h : p.toNat * N.toNat ≤ 9223372036854775807 * 1099511627776 := Nat.mul_le_mul (by omega) (by omega)
  omega
theorem ceil_div (m b : Nat) (hb : 0 < b) : ((m / b : Nat) : Int) + (if m % b = 0 then 0 else 1) = ((m : Int) + b - 1) / b := by
  have hd := Nat.div_add_mod m b
  have hm := Nat.mod_lt m hb
  have key : ((m : Int) + b - 1) = (((m % b : Nat) : Int) + b - 1) + (b : Int) * ((m / b : Nat) : Int) := by
    have h := congrArg (Int.ofNat) hd.symm
    have : (m : Int) = (b : Int) * ((m / b : Nat) : Int) + ((m % b : Nat) : Int) := by simpa using h
    omega
  rw [key, Int.add_mul_ediv_left _ _ (by omega)]
  split
  · rename_i h0
    rw [h0, Int.ediv_eq_zero_of_lt (by simp; omega) (by simp; omega)]; omega
  · rename_i h0
    have : (((m % b : Nat) : Int) + b - 1) / b = 1 := by
      have e2 : (((m % b : Nat) : Int) + b - 1) = (((m % b : Nat) : Int) - 1) + (b : Int) * 1 := by omega
      rw [e2, Int.add_mul_ediv_left _ _ (by omega), Int.ediv_eq_zero_of_lt (by omega) (by omega)]
      rfl
    rw [this]; omega
theorem tgtQ_div {p q N : Int} (h : asksQ p q) (hN : 0 ≤ N) : (((p.toNat * N.toNat) / q.toNat : Nat) : Int) + (if p.toNat * N.toNat % q.toNat = 0 then 0 else 1) = (p * N + q - 1) / q := by
  obtain ⟨h1, h2, h3⟩ := h
  obtain ⟨a, rfl⟩ := Int.eq_ofNat_of_zero_le h2
  obtain ⟨b, rfl⟩ := Int.eq_ofNat_of_zero_le (show 0 ≤ q by omega)
  obtain ⟨n, rfl⟩ := Int.eq_ofNat_of_zero_le hN
  have h := ceil_div (a * n) b (by omega)
  rw [show ((a * n : Nat) : Int) = (a : Int) * (n : Int) by simp] at h
  exact h
theorem quo_le {p q N : Int} (h : asksQ p q) (hN : 0 ≤ N) : (p * N + q - 1) / q ≤ N ∧ 0 ≤ (p * N + q - 1) / q := by
  obtain ⟨h1, h2, h3⟩ := h
  have h0 : p * N ≤ q * N := Int.mul_le_mul_of_nonneg_right h3 hN
  have h4 : 0 ≤ p * N := Int.mul_nonneg h2 hN
  refine ⟨?_, Int.ediv_nonneg (by omega) (by omega)⟩
  have : (p * N + q - 1) / q < N + 1 := Int.ediv_lt_of_lt_mul (by omega) (by rw [Int.add_mul, Int.mul_comm N q]; omega)
  omega
theorem tgtQ_bd {p q N : Int} (h : asksQ p q) (hN : 1 ≤ N) : 1 ≤ tgtQ p q N ∧ tgtQ p q N ≤ N := by
  have := quo_le h (show 0 ≤ N by omega)
  unfold tgtQ; omega
def quaV (N : Int) (es : L3) (p q : Int) : Int × Int :=
  if valR N es = true then (if asksQ p q then (if N = 0 then (0, 7) else ((at3 es (place es (tgtQ p q N) 0)).1, 0)) else (0, 1)) else (0, 2)
theorem place_forN {N : Int} {es : L3} (h : valR N es = true) (h0 : 0 < es.length) (r : Int) : place es r 0 = forN es r :=
  (place_for (strict_of_val h) r es.length 0 (by omega) h0 (fun i hi => absurd hi (Nat.not_lt_zero _))).1
theorem sureF_len : ∀ (xs : List K5) (p : Int × L3), (sureF p xs).1.2.length ≤ p.2.length + (xs.map fun x => x.2.2.2.2.length).sum
  | [], p => by simp [sureF]
  | x :: r, p => by
    unfold sureF
    split
    · rename_i h
      have ih := sureF_len r (mrgP p.1 p.2 x.2.2.2.1 x.2.2.2.2)
      have hm : (mrgP p.1 p.2 x.2.2.2.1 x.2.2.2.2).2.length ≤ p.2.length + x.2.2.2.2.length := by
        unfold mrgP
        split
        · show (mergeL _ _ _ _).length ≤ _
          rw [merge_len]; omega
        · simp
      simp only [List.map_cons, List.sum_cons]
      omega
    · simp
end Go.Proofs.Ytjapjfcennemeaa.rnk
end
section
namespace Go.Proofs.Ytjapjfcennemeaa.rnk
open Go.Proofs.Ytjapjfcennemeaa.mem Go.Proofs.Ytjapjfcennemeaa.buk
set_option linter.unusedVariables false
theorem tgt_near {p q N z : Int} (ha : asksQ p q) (hN : 1 ≤ N) (hz : 0 ≤ z) : (if 0 < p then tgtQ p q (N + z) else 0) ≤ tgtQ p q N + z ∧ tgtQ p q N ≤ (if 0 < p then tgtQ p q (N + z) else 0) + 1 ∧ 0 ≤ (if 0 < p then tgtQ p q (N + z) else 0) := by
  obtain ⟨h1, h2, h3⟩ := ha
  have e1 : p * (N + z) = p * N + p * z := Int.mul_add _ _ _
  have hpz : 0 ≤ p * z := Int.mul_nonneg h2 hz
  have hqz : p * z ≤ q * z := Int.mul_le_mul_of_nonneg_right h3 hz
  have m1 : (p * N + q - 1) / q ≤ (p * (N + z) + q - 1) / q := Int.ediv_le_ediv (by omega) (by omega)
  have m2 : (p * (N + z) + q - 1) / q ≤ (p * N + q - 1) / q + z := by
    have : (p * N + q - 1 + q * z) / q = (p * N + q - 1) / q + z := Int.add_mul_ediv_left _ _ (by omega)
    rw [← this]
    exact Int.ediv_le_ediv (by omega) (by omega)
  unfold tgtQ
  by_cases hp : 0 < p
  · rw [if_pos hp]
    have hpN : 1 ≤ p * N := by have := Int.mul_le_mul (show (1 : Int) ≤ p by omega) hN (by omega) (by omega); omega
    have h5 : 1 ≤ (p * N + q - 1) / q := (Int.le_ediv_iff_mul_le (by omega)).2 (by omega)
    omega
  · rw [if_neg hp]
    obtain rfl : p = 0 := by omega
    have h5 : (0 * N + q - 1) / q = 0 := Int.ediv_eq_zero_of_lt (by omega) (by omega)
    omega
section
variable {xs : List K5} {k b w now : Int} {its : Its}
def wantT (p q n : Int) : Int := if 0 < p then tgtQ p q n else 0
theorem truth_near {x : K5} {r : List K5} (h : RunB (x :: r) k b w now its) (hl : its.length ≤ 1000000) {p q : Int} (ha : asksQ p q) :
    ∃ N es u, sureK (x :: r) = ((N, es), 0) ∧ valR N es = true ∧ 1 ≤ N ∧ (0 ≤ x.2.2.1 ∧ x.2.2.1 ≤ 30) ∧ N ≤ ((liveV now w its).length : Int) ∧ quaV N es p q = (u, 0) ∧
      (∀ v, lw es (cutV es v) ≤ rk (liveV now w its) v ∧ rk (liveV now w its) v ≤ up es N (cutV es v) + 2 ^ x.2.2.1.toNat - 1) ∧
      bl (liveV now w its) u + 1 ≤ rk (liveV now w its) u ∧ bl (liveV now w its) u + 1 ≤ wantT p q (liveV now w its).length + (gapR N es / 2 + 2 ^ x.2.2.1.toNat) ∧ wantT p q (liveV now w its).length - (gapR N es / 2 + 2 ^ x.2.2.1.toNat) ≤ rk (liveV now w its) u := by
  obtain ⟨N, es, z, q1, q2, q3, q4, M, q5, q6, q7, q8, q9, q10, q11, q12⟩ := h.near hl
  generalize liveV now w its = L at *
  have hv := (valR_iff.1 q2).1
  have hN : 1 ≤ N := by omega
  have hT := tgtQ_bd ha hN
  have hf := near_for q2 q3 hT.1 hT.2
  have hpl := place_lt (es := es) (n := tgtQ p q N) (s := 0) q3
  rw [place_forN q2 q3] at hpl
  refine ⟨N, es, (at3 es (forN es (tgtQ p q N))).1, q1, q2, hN, q4, by omega, ?_, fun v => ?_, ?_⟩
  · unfold quaV
    rw [if_pos q2, if_pos ha, if_neg (by omega), place_forN q2 q3]
  · obtain ⟨c1, c2, c3⟩ := cutV_spec v es
    have hr := q5.ranks c1 c2 c3
    have := q10 v
    omega
  · obtain ⟨s1, s2, s3⟩ := q5.2 _ hpl.2
    have hg : gapR N es = gapTo es (es.length - 1) := by unfold gapR; rw [if_pos ⟨q2, q3⟩]
    have hb := bl_mem (q6 _ s1)
    have h10 := q10 (at3 es (forN es (tgtQ p q N))).1
    have ht := tgt_near ha hN q8
    rw [hg, q9]
    unfold wantT
    unfold far at hf
    generalize (if 0 < p then tgtQ p q (N + z) else 0) = T at *
    generalize tgtQ p q N = t at *
    generalize (at3 es (forN es t)).2.1 = mn at *
    generalize (at3 es (forN es t)).2.2 = mx at *
    generalize (at3 es (forN es t)).1 = u at *
    generalize gapTo es (es.length - 1) = G at *
    generalize (2 : Int) ^ x.2.2.1.toNat = P at *
    omega
end
theorem liveV_eq (now w : Int) (its : Its) : liveV now w its = (its.filter fun p => decide (now - w < p.1) && decide (p.1 ≤ now)).map Prod.snd := rfl
theorem rk_take {zs : List (Int × Int)} {v : Int} {i : Nat} (h : i < zs.length) : rk ((zs.take (i + 1)).map Prod.snd) v = rk ((zs.take i).map Prod.snd) v + (if (at_ zs i).2 ≤ v then 1 else 0) := by
  have e : at_ zs i = zs[i] := by simp [at_, List.getElem?_eq_getElem h]
  rw [e, List.take_succ_eq_append_getElem h, List.map_append, rk_app]
  congr 1
  unfold rk
  by_cases hv : zs[i].2 ≤ v <;> simp [hv]
theorem bl_take {zs : List (Int × Int)} {v : Int} {i : Nat} (h : i < zs.length) : bl ((zs.take (i + 1)).map Prod.snd) v = bl ((zs.take i).map Prod.snd) v + (if (at_ zs i).2 < v then 1 else 0) := by
  have e : at_ zs i = zs[i] := by simp [at_, List.getElem?_eq_getElem h]
  rw [e, List.take_succ_eq_append_getElem h, List.map_append, bl_app]
  congr 1
  unfold bl
  by_cases hv : zs[i].2 < v <;> simp [hv]
end Go.Proofs.Ytjapjfcennemeaa.rnk
end
section
namespace Go.Proofs.Ytjapjfcennemeaa.rnk
open Go.RowKit Go.Proofs.Ytjapjfcennemeaa.mem Go.Proofs.Ytjapjfcennemeaa.gro
set_option linter.unusedVariables false
set_option linter.unusedSimpArgs false
theorem take_bd (zs : List (Int × Int)) (i : Nat) : (((zs.take i).map Prod.snd).length : Int) ≤ i := by rw [List.length_map, List.length_take]; omega
set_option maxHeartbeats 4000000 in
set_option maxRecDepth 100000 in
theorem Rank8_any (A : Option Addr) (n c : Nat) (zs : List (Int × Int)) (v : Int) (w : World) (h1 : PRead w w.heap.size A n zs) (hs : n ≤ 1000000) :
    Calls Try.prog 40 #[.slice A n c, .int .i64 v] w fun e w' => e = .returned (.int .i64 (rk (zs.map Prod.snd) v)) ∧ Below w.heap.size w w' := by
  have H1 := Lib.hid h1
  have HL := Lib.hid (PRead.len h1)
  clear h1
  go_enter Try.func40, Try.ntmps40
  go_wp2
  go_loopg [5, 10] n (fun kx s5 s10 wr => ∃ i : Nat, s10 = .int .i64 i ∧ s5 = .int .i64 (rk ((zs.take i).map Prod.snd) v) ∧ i ≤ n ∧ n - i ≤ kx ∧ Hid (Below w.heap.size w wr))
  case atStart => exact ⟨0, rfl, rfl, Nat.zero_le _, by omega, Below.refl _ _⟩
  case round =>
    obtain ⟨i, rfl, rfl, hin, hik, HB⟩ := hrel
    by_cases hlt : i < n
    case neg =>
      obtain rfl : i = n := by omega
      have e : Hid (zs.take i = zs) := List.take_of_length_le (by rw [HL.out]; exact Nat.le_refl _)
      go_wp2
      go_ret
      exact ⟨ret_int (by rw [e.out]), HB.out⟩
    obtain ⟨ad, rfl, hbl, hc1, hc2⟩ := PRead.at_ (mem.Reads.below H1.out HB.out) hlt
    have hbl2 : ad.block < wr.heap.size := by have := HB.out.size; omega
    have HT := Lib.hid (rk_take (zs := zs) (v := v) (i := i) (by rw [HL.out]; exact hlt))
    have hb1 := rk_le ((zs.take i).map Prod.snd) v
    have hb2 := take_bd zs i
    have hb3 := rk_nn ((zs.take i).map Prod.snd) v
    change wr.cell? (ad.add (i * 2)) = some (.int .i64 (buk.at_ zs i).1) at hc1
    change wr.cell? ⟨(ad.add (i * 2)).block, (ad.add (i * 2)).off + 1, none⟩ = some (.int .i64 (buk.at_ zs i).2) at hc2
    generalize (buk.at_ zs i).1 = x at *
    generalize (buk.at_ zs i).2 = y at *
    generalize rk ((zs.take i).map Prod.snd) v = o at *
    have s1 : IntKind.i64.wrap (o + 1) = o + 1 := IntWalk.i64_in _ (by omega)
    obtain ⟨s, hs3⟩ : ∃ s, wr.heap.size = s := ⟨_, rfl⟩
    have RA := (gro.Bx.nil_.new (W := wr) (t := 37) (c := #[Value.int IntKind.i64 x, Value.int IntKind.i64 y]) hs3).rules
    simp only [gro.Rules] at RA
    by_cases hc : y ≤ v
    · rw [if_pos hc] at HT
      go_wp2_with fail
      go_roundg (n - (i + 1))
      case measure => omega
      case rel => exact ⟨i + 1, by go_num, by rw [HT.out], by omega, by omega, HB.out.alloc HB.out.size _⟩
    · rw [if_neg hc, Int.add_zero] at HT
      go_wp2_with fail
      go_roundg (n - (i + 1))
      case measure => omega
      case rel => exact ⟨i + 1, by go_num, by rw [HT.out], by omega, by omega, HB.out.alloc HB.out.size _⟩
set_option maxHeartbeats 4000000 in
set_option maxRecDepth 100000 in
theorem Below8_any (A : Option Addr) (n c : Nat) (zs : List (Int × Int)) (v : Int) (w : World) (h1 : PRead w w.heap.size A n zs) (hs : n ≤ 1000000) :
    Calls Try.prog 43 #[.slice A n c, .int .i64 v] w fun e w' => e = .returned (.int .i64 (bl (zs.map Prod.snd) v)) ∧ Below w.heap.size w w' := by
  have H1 := Lib.hid h1
  have HL := Lib.hid (PRead.len h1)
  clear h1
  go_enter Try.func43, Try.ntmps43
  go_wp2
  go_loopg [5, 10] n (fun kx s5 s10 wr => ∃ i : Nat, s10 = .int .i64 i ∧ s5 = .int .i64 (bl ((zs.take i).map Prod.snd) v) ∧ i ≤ n ∧ n - i ≤ kx ∧ Hid (Below w.heap.size w wr))
  case atStart => exact ⟨0, rfl, rfl, Nat.zero_le _, by omega, Below.refl _ _⟩
  case round =>
    obtain ⟨i, rfl, rfl, hin, hik, HB⟩ := hrel
    by_cases hlt : i < n
    case neg =>
      obtain rfl : i = n := by omega
      have e : Hid (zs.take i = zs) := List.take_of_length_le (by rw [HL.out]; exact Nat.le_refl _)
      go_wp2
      go_ret
      exact ⟨ret_int (by rw [e.out]), HB.out⟩
    obtain ⟨ad, rfl, hbl, hc1, hc2⟩ := PRead.at_ (mem.Reads.below H1.out HB.out) hlt
    have hbl2 : ad.block < wr.heap.size := by have := HB.out.size; omega
    have HT := Lib.hid (bl_take (zs := zs) (v := v) (i := i) (by rw [HL.out]; exact hlt))
    have hb1 := bl_le ((zs.take i).map Prod.snd) v
    have hb2 := take_bd zs i
    have hb3 := bl_nn ((zs.take i).map Prod.snd) v
    change wr.cell? (ad.add (i * 2)) = some (.int .i64 (buk.at_ zs i).1) at hc1
    change wr.cell? ⟨(ad.add (i * 2)).block, (ad.add (i * 2)).off + 1, none⟩ = some (.int .i64 (buk.at_ zs i).2) at hc2
    generalize (buk.at_ zs i).1 = x at *
    generalize (buk.at_ zs i).2 = y at *
    generalize bl ((zs.take i).map Prod.snd) v = o at *
    have s1 : IntKind.i64.wrap (o + 1) = o + 1 := IntWalk.i64_in _ (by omega)
    obtain ⟨s, hs3⟩ : ∃ s, wr.heap.size = s := ⟨_, rfl⟩
    have RA := (gro.Bx.nil_.new (W := wr) (t := 37) (c := #[Value.int IntKind.i64 x, Value.int IntKind.i64 y]) hs3).rules
    simp only [gro.Rules] at RA
    by_cases hc : y < v
    · rw [if_pos hc] at HT
      go_wp2_with fail
      go_roundg (n - (i + 1))
      case measure => omega
      case rel => exact ⟨i + 1, by go_num, by rw [HT.out], by omega, by omega, HB.out.alloc HB.out.size _⟩
    · rw [if_neg hc, Int.add_zero] at HT
      go_wp2_with fail
      go_roundg (n - (i + 1))
      case measure => omega
      case rel => exact ⟨i + 1, by go_num, by rw [HT.out], by omega, by omega, HB.out.alloc HB.out.size _⟩
end Go.Proofs.Ytjapjfcennemeaa.rnk
end
section
namespace Go.Proofs.Ytjapjfcennemeaa.rnk
open Go.RowKit Go.Proofs.Ytjapjfcennemeaa.mem Go.Proofs.Ytjapjfcennemeaa.gro
set_option linter.unusedVariables false
theorem sureK_no {xs : List K5} {i : Nat} (hi : i < xs.length) (h : okS (atK xs i) = false) : sureK xs = ((0, []), 2) := by
  unfold sureK; rw [if_neg (by rw [okTo_not h hi]; exact Bool.false_ne_true)]
theorem sureK_yes {x : K5} {r : List K5} (h : okTo (x :: r) (x :: r).length = true) : sureK (x :: r) = sureF (first1 x) r := by unfold sureK; rw [if_pos h]
theorem sureF_nil (p : Int × L3) : sureF p [] = (p, 0) := rfl
theorem sureF_err {N : Int} {es : L3} {x : K5} {r : List K5} (h : ¬ mrgE N es x.2.2.2.1 x.2.2.2.2 = 0) : sureF (N, es) (x :: r) = ((0, []), mrgE N es x.2.2.2.1 x.2.2.2.2) := by unfold sureF; rw [if_neg h]
theorem sureF_ok {N : Int} {es : L3} {x : K5} {r : List K5} (h : mrgE N es x.2.2.2.1 x.2.2.2.2 = 0) : sureF (N, es) (x :: r) = sureF (mrgP N es x.2.2.2.1 x.2.2.2.2) r := by rw [sureF]; rw [if_pos h]
theorem okS_iff {t l v n : Int} {es : L3} : okS (t, l, v, n, es) = true ↔ valR n es = true ∧ 0 ≤ v ∧ v ≤ 30 := by unfold okS; simp
theorem mrgP_len (a b : Int) (x y : L3) : (mrgP a x b y).2.length ≤ x.length + y.length := by
  unfold mrgP
  split
  · show (mergeL x y a b).length ≤ _
    rw [merge_len]; exact Nat.le_refl _
  · exact Nat.zero_le _
theorem drop_atK {xs : List K5} {i : Nat} (h : i < xs.length) : xs.drop i = atK xs i :: xs.drop (i + 1) := by rw [atK_eq h]; exact List.drop_eq_getElem_cons h
theorem ents_drop {xs : List K5} {i : Nat} (h : i < xs.length) : entsK (xs.drop i) = (atK xs i).2.2.2.2.length + entsK (xs.drop (i + 1)) := by rw [drop_atK h]; simp [entsK]
theorem okTo_at {xs : List K5} {n : Nat} (h : okTo xs n = true) {i : Nat} (hi : i < n) : okS (atK xs i) = true := (okTo_iff n).1 h i hi
theorem first1_1 {t l v n : Int} {es : L3} (h : ¬ v = 0) : first1 (t, l, v, n, es) = (1, [(l, 1, 1)]) := by unfold first1; rw [if_neg h]
theorem first1_len (x : K5) : (first1 x).2.length ≤ 1 + x.2.2.2.2.length := by unfold first1; split <;> simp
theorem sureK_len : ∀ xs : List K5, (sureK xs).1.2.length ≤ 1 + entsK xs
  | [] => Nat.zero_le _
  | x :: r => by
    unfold sureK
    split
    · show (sureF (first1 x) r).1.2.length ≤ _
      have h1 := sureF_len r (first1 x)
      have h2 : (first1 x).2.length ≤ 1 + x.2.2.2.2.length := by unfold first1; split <;> simp
      have h3 : entsK (x :: r) = x.2.2.2.2.length + (r.map fun x => x.2.2.2.2.length).sum := by simp [entsK]
      omega
    · exact Nat.zero_le _
theorem ERead.apart {W : World} {B n g : Nat} {A : Option Addr} {es : L3} {t : TypeId} {u v : Value} (h : ERead W B A n es) (hb : Blk W g t #[u, v]) : 0 < n → ∀ ad, A = some ad → ad.block ≠ g := fun h0 ad e he => by
  obtain ⟨ad', e', _, _, _, h3⟩ := ERead.at_ h h0
  rw [e] at e'
  injection e' with e'
  subst e'
  have h4 := hb.cell (ad.off + 2)
  have e5 : ad.add (0 * 3) = ad := by simp [Addr.add]
  rw [e5, he, h4] at h3
  simp at h3
theorem BRead.zero {w : World} {B n : Nat} {A : Option Addr} {xs : List BlkM} (h : BRead w B A n xs) (hn : 0 < n) :
    ∃ ad b, A = some ad ∧ ad.block < B ∧ xs[0]? = some b ∧ Hid (∀ W, Below B w W → W.cell? ad = some (.int .i64 b.t) ∧ W.cell? ⟨ad.block, ad.off + 1, none⟩ = some (.int .i64 b.last) ∧ W.cell? ⟨ad.block, ad.off + 2, none⟩ = some (.int .i64 b.level) ∧ W.cell? ⟨ad.block, ad.off + 3, none⟩ = some (.int .i64 b.num) ∧ W.cell? ⟨ad.block, ad.off + 4, none⟩ = some (.slice b.adr b.en b.ec)) ∧ ERead w B b.adr b.en b.es ∧ b.en ≤ b.ec ∧ b.ec ≤ maxLen := by
  obtain ⟨ad, b, rfl, hb, hx, _, _, _, _, _, hE⟩ := BRead.at_ h hn
  refine ⟨ad, b, rfl, hb, hx, fun W hW => ?_, hE⟩
  obtain ⟨ad', b', e, _, hx', h1, h2, h3, h4, h5, _⟩ := BRead.at_ (h.below hW) hn
  injection e with e
  subst e
  rw [hx] at hx'
  injection hx' with hx'
  subst hx'
  have e5 : ad.add (0 * 5) = ad := by simp [Addr.add]
  rw [e5] at h1 h2 h3 h4 h5
  exact ⟨h1, h2, h3, h4, h5⟩
end Go.Proofs.Ytjapjfcennemeaa.rnk
end
