/- BLawP; BLaw: texts in one. -/
import Derived.Test.YtjapjfcennemeaaMgKeepK
import Derived.Test.YtjapjfcennemeaaBInR
set_option linter.unusedVariables false
set_option linter.unusedSimpArgs false
/- Plain: insertion into blocks, its size; the chapter's example. No program. -/
namespace Go.Proofs.Ytjapjfcennemeaa.rnk
open Go.Proofs.Ytjapjfcennemeaa.mem Go.Proofs.Ytjapjfcennemeaa.buk
set_option linter.unusedVariables false
theorem mayK_iff2 {xs : List K5} {k b t v : Int} : mayK xs k b t v = true ↔ validK xs k b = true ∧ (0 ≤ t ∧ t ≤ 16777216) ∧ lastK xs ≤ t ∧ (-4096 ≤ v ∧ v ≤ 4096) ∧ totalK xs < 1073741824 := by
  unfold mayK
  simp only [Bool.and_eq_true, decide_eq_true_eq, and_assoc]
theorem ents_bd {B : Nat} : ∀ {xs : List K5}, (∀ x ∈ xs, x.2.2.2.2.length ≤ B) → entsK xs ≤ xs.length * B
  | [], _ => by simp [entsK]
  | x :: xs, h => by
    have h1 := h x (List.mem_cons_self ..)
    have h2 := ents_bd (xs := xs) (fun y hy => h y (List.mem_cons_of_mem _ hy))
    have e : entsK (x :: xs) = x.2.2.2.2.length + entsK xs := by simp [entsK]
    rw [e, List.length_cons, Nat.succ_mul]
    omega
theorem ents_valid {xs : List K5} {k b : Int} (h : validK xs k b = true) : entsK xs ≤ xs.length * (b + 1).toNat := by
  obtain ⟨hb, _, h3⟩ := validK_iff.1 h
  refine ents_bd fun x hx => ?_
  obtain ⟨i, hi, rfl⟩ := List.mem_iff_getElem.1 hx
  have h4 := (blkOk_iff.1 (h3 i hi)).len
  rw [show atK xs i = xs[i] by simp [atK, List.getElem?_eq_getElem hi]] at h4
  omega
theorem insK_t {xs : List K5} {k b t v : Int} (h : mayK xs k b t v = true) : insK xs k b t v = insKC xs k.toNat b t v := if_pos h
theorem insK_f {xs : List K5} {k b t v : Int} (h : ¬ mayK xs k b t v = true) : insK xs k b t v = [] := if_neg h
theorem putKC_ins {xs : List K5} {k b t v : Int} (h : mayK xs k b t v = true) : putKC xs k.toNat b t v = insKC xs k.toNat b t v := by
  obtain ⟨h1, _, _, _, h5⟩ := mayK_iff2.1 h
  obtain ⟨_, hv, _⟩ := validK_iff.1 h1
  have hp := validB_iff.1 hv
  have ho := hp.2.1
  have hw := wgt_tot ho
  rw [plainK_length] at ho
  exact putKC_eq (by have := hp.1; omega) ho (by unfold totalK at h5; omega) t v
theorem validK_nil {k b : Int} (hk : 1 ≤ k ∧ k ≤ 128) (hb : 1 ≤ b ∧ b ≤ 65536) : validK [] k b = true :=
  validK_iff.2 ⟨hb, validB_t ⟨hk, fun i hi => absurd hi (Nat.not_lt_zero _), fun h => absurd h (Nat.lt_irrefl _)⟩, fun i hi => absurd hi (Nat.not_lt_zero _)⟩
/-- The chapter's example. -/
theorem may_one : mayK [] 1 8 1 4 = true := mayK_iff2.2 ⟨validK_nil (by omega) (by omega), by omega, by unfold lastK; simp, by omega, by decide⟩
theorem may_two : mayK (insKC [] 1 8 1 4) 1 8 2 2 = true := by
  obtain ⟨h1, h2, h3, _⟩ := insKC_ok may_one
  exact mayK_iff2.2 ⟨h1, by omega, by rw [show insKC [] 1 8 1 4 = insKC [] (1 : Int).toNat 8 1 4 from rfl, h3]; omega, by omega, by rw [show insKC [] 1 8 1 4 = insKC [] (1 : Int).toNat 8 1 4 from rfl, h2]; decide⟩
theorem may_three : mayK (insKC (insKC [] 1 8 1 4) 1 8 2 2) 1 8 3 9 = true := by
  obtain ⟨_, g2, _, _⟩ := insKC_ok may_one
  obtain ⟨h1, h2, h3, _⟩ := insKC_ok may_two
  exact mayK_iff2.2 ⟨h1, by omega, by rw [show insKC (insKC [] 1 8 1 4) 1 8 2 2 = insKC (insKC [] 1 8 1 4) (1 : Int).toNat 8 2 2 from rfl, h3]; omega, by omega, by
    rw [show insKC (insKC [] 1 8 1 4) 1 8 2 2 = insKC (insKC [] 1 8 1 4) (1 : Int).toNat 8 2 2 from rfl, h2]
    have : totalK (insKC [] 1 8 1 4) = totalK [] + 1 := g2
    rw [this]; decide⟩
theorem ex_three : insKC (insKC (insKC [] 1 8 1 4) 1 8 2 2) 1 8 3 9 = [(2, 2, 1, 2, [(2, 1, 1), (4, 2, 2)]), (3, 9, 0, 1, [(9, 1, 1)])] := by rfl
end Go.Proofs.Ytjapjfcennemeaa.rnk

/- Contracts of both insertions at any small list, of the law's few and awake. -/
namespace Go.Proofs.Ytjapjfcennemeaa.blk
open Go.RowKit Go.Proofs.Ytjapjfcennemeaa.mem Go.Proofs.Ytjapjfcennemeaa.rnk Go.Proofs.Ytjapjfcennemeaa.gro Go.Proofs.Ytjapjfcennemeaa.buk
set_option linter.unusedVariables false
set_option linter.unusedSimpArgs false
set_option pp.maxSteps 200000
theorem InsertB_any (A : Option Addr) (n c : Nat) (xs : List BlkM) (k b t v : Int) (w : World) (h1 : BRead w w.heap.size A n xs) (hs : n ≤ 64000) (hent : validK (xs.map bkey) k b = true → entsK (xs.map bkey) ≤ 4000000) : Calls Try.prog 22 #[.slice A n c, .int .i64 k, .int .i64 b, .int .i64 t, .int .i64 v] w (NewBK (insK (xs.map bkey) k b t v) w) := by
  by_cases hm : mayK (xs.map bkey) k b t v = true
  · rw [insK_t hm]
    have hv := (mayK_iff.1 hm).1
    have hk := (validB_iff.1 (validK_iff.1 hv).2.1).1
    obtain ⟨kk, rfl⟩ := Int.eq_ofNat_of_zero_le (show 0 ≤ k by omega)
    rw [Int.toNat_natCast]
    exact InsertB_yes A n c xs kk b t v w h1 hs (hent hv) hm
  · rw [insK_f hm]
    exact (InsertB_no A n c xs k b t v w h1 hs hm).mono fun e w' ⟨he, hb⟩ => by rw [he]; exact newBK_nil _ _ hb
theorem InsertBR_any (A : Option Addr) (n c : Nat) (xs : List BlkM) (k b t v : Int) (w : World) (h1 : BRead w w.heap.size A n xs) (hs : n ≤ 64000) (hent : validK (xs.map bkey) k b = true → entsK (xs.map bkey) ≤ 4000000) : Calls Try.prog 23 #[.slice A n c, .int .i64 k, .int .i64 b, .int .i64 t, .int .i64 v] w (NewBK (insK (xs.map bkey) k b t v) w) := by
  by_cases hm : mayK (xs.map bkey) k b t v = true
  · have hp := putKC_ins hm
    rw [insK_t hm, ← hp]
    have hv := (mayK_iff.1 hm).1
    have hk := (validB_iff.1 (validK_iff.1 hv).2.1).1
    obtain ⟨kk, rfl⟩ := Int.eq_ofNat_of_zero_le (show 0 ≤ k by omega)
    rw [Int.toNat_natCast]
    exact InsertBR_yes A n c xs kk b t v w h1 hs (hent hv) hm
  · rw [insK_f hm]
    exact (InsertBR_no A n c xs k b t v w h1 hs hm).mono fun e w' ⟨he, hb⟩ => by rw [he]; exact newBK_nil _ _ hb
theorem ents_few {xs : List K5} {k b : Int} (hl : xs.length ≤ 60) (h : validK xs k b = true) : entsK xs ≤ 4000000 := by
  have h1 := ents_valid h
  have hb := (validK_iff.1 h).1
  have h2 : xs.length * (b + 1).toNat ≤ 60 * 65537 := Nat.mul_le_mul hl (by omega)
  omega
set_option maxHeartbeats 4000000 in
set_option maxRecDepth 100000 in
theorem few22_any (A : Option Addr) (n c : Nat) (xs : List BlkM) (w : World) (h1 : BRead w w.heap.size A n xs) (hn : n ≤ maxLen) :
    Calls Try.prog 13 #[.slice A n c] w fun e w' => ∃ f : Bool, e = .returned (.bool f) ∧ (f = true → n ≤ 40) ∧ Below w.heap.size w w' := by
  have hn9 : n ≤ 9223372036854775807 := hn
  have H1 := Lib.hid h1
  clear h1 hn
  go_enter Try.func13, Try.ntmps13
  go_wp2
  go_loopg [3, 8] n (fun kx s3 s8 wr => ∃ (i : Nat) (z : Int), s8 = .int .i64 i ∧ s3 = .int .i64 z ∧ i ≤ n ∧ n - i ≤ kx ∧ Hid (Below w.heap.size w wr))
  case atStart => exact ⟨0, 0, rfl, rfl, Nat.zero_le _, by omega, Below.refl _ _⟩
  case round =>
    obtain ⟨i, z, rfl, rfl, hin, hik, HB⟩ := hrel
    by_cases hlt : i < n
    case neg =>
      obtain rfl : i = n := by omega
      by_cases h40 : i ≤ 40
      · have h40i : (i : Int) ≤ 40 := by omega
        go_wp2
        all_goals (go_ret; exact ⟨_, rfl, fun _ => h40, HB.out⟩)
      · have h40i : ¬ (i : Int) ≤ 40 := by omega
        go_wp2
        all_goals (go_ret; first | exact ⟨false, rfl, fun h => (by cases h), HB.out⟩ | exact ⟨false, rfl, rfl, HB.out⟩ | exact ⟨rfl, HB.out⟩)
    obtain ⟨ad, b, rfl, hbl, hb, hc1, hc2, hc3, hc4, hc5, _⟩ := BRead.at_ (H1.out.below HB.out) hlt
    have hsz := HB.out.size
    clear hb
    generalize b.t = bt at *
    generalize b.last = bl at *
    generalize b.level = bv at *
    generalize b.num = bn at *
    generalize b.adr = ba at *
    generalize b.en = be at *
    generalize b.ec = bq at *
    obtain ⟨zz, hzz⟩ : ∃ zz, IntKind.i64.wrap (z + (be : Int)) = zz := ⟨_, rfl⟩
    have s1 : IntKind.i64.wrap ((i : Int) + 1) = (i : Int) + 1 := IntWalk.i64_in _ (by omega)
    go_wp2
    go_roundg (n - (i + 1))
    case measure => omega
    case rel => exact ⟨i + 1, _, by go_num, rfl, by omega, by omega, HB.out.alloc HB.out.size _⟩
set_option maxHeartbeats 4000000 in
set_option maxRecDepth 100000 in
theorem awake22_any (w : World) : Calls Try.prog 14 #[] w fun e w' => e = .returned (.bool true) ∧ Below w.heap.size w w' := by
  have H1 := Lib.hid (InsertB_any none 0 0 [] 1 8 1 4 w ⟨Reads.none_, fun b hb => by cases hb⟩ (by omega) (fun h => ents_few (by simp) h))
  have E1 : Hid (insK (List.map bkey []) 1 8 1 4 = insKC [] 1 8 1 4) := insK_t may_one
  have E2 : Hid (insK (insKC [] 1 8 1 4) 1 8 2 2 = insKC (insKC [] 1 8 1 4) 1 8 2 2) := insK_t may_two
  have E3 : Hid (insK (insKC (insKC [] 1 8 1 4) 1 8 2 2) 1 8 3 9 = [(2, 2, 1, 2, [(2, 1, 1), (4, 2, 2)]), (3, 9, 0, 1, [(9, 1, 1)])]) := (insK_t may_three).trans ex_three
  have L1 : (insKC [] 1 8 1 4).length = 1 := rfl
  have L2 : (insKC (insKC [] 1 8 1 4) 1 8 2 2).length = 2 := rfl
  rw [E1.out] at H1
  have HL1 := Lib.hid L1
  have HL2 := Lib.hid L2
  clear L1 L2
  generalize insKC [] 1 8 1 4 = k1 at *
  generalize insKC k1 1 8 2 2 = k2 at *
  go_enter Try.func14, Try.ntmps14
  go_wp2_with fail
  refine H1.out.mono ?_
  rintro e w1 ⟨A1, m1, c1, y1, rfl, q1, q2, r1, e1, b1, _⟩
  have hl1 := r1.len
  have hk1 : y1.length = 1 := by rw [← HL1.out, ← e1, List.length_map]
  have H2 := Lib.hid (InsertB_any A1 m1 c1 y1 1 8 2 2 w1 r1 (by omega) (fun h => ents_few (by rw [List.length_map]; omega) h))
  rw [e1, E2.out] at H2
  have B1 := Lib.hid b1
  clear r1 e1 b1
  go_wp2_with fail
  refine H2.out.mono ?_
  rintro e w2 ⟨A2, m2, c2, y2, rfl, q3, q4, r2, e2, b2, _⟩
  have hl2 := r2.len
  have hk2 : y2.length = 2 := by rw [← HL2.out, ← e2, List.length_map]
  have H3 := Lib.hid (InsertB_any A2 m2 c2 y2 1 8 3 9 w2 r2 (by omega) (fun h => ents_few (by rw [List.length_map]; omega) h))
  rw [e2, E3.out] at H3
  have B2 := Lib.hid (B1.out.trans (b2.mono B1.out.size))
  clear r2 e2 b2
  go_wp2_with fail
  refine H3.out.mono ?_
  rintro e w3 ⟨A3, m3, c3, y3, rfl, q5, q6, r3, e3, b3, _⟩
  have hl3 := r3.len
  have hk3 : y3.length = 2 := by have := congrArg List.length e3; simpa using this
  obtain rfl : m3 = 2 := by omega
  have B3 := Lib.hid (B2.out.trans (b3.mono B2.out.size))
  obtain ⟨ad, b, rfl, _, hb, hc1, hc2, hc3, _⟩ := BRead.at_ r3 (show 0 < 2 by omega)
  rw [show ad.add (0 * 5) = ad from by simp [Addr.add]] at hc1 hc2 hc3
  have hb0 : bkey b = (2, 2, 1, 2, [(2, 1, 1), (4, 2, 2)]) := by
    have : (y3.map bkey)[0]? = some (bkey b) := by rw [List.getElem?_map, hb]; rfl
    rw [e3] at this
    injection this with this
    exact this.symm
  have hlv : b.level = 1 := congrArg (fun x => x.2.2.1) hb0
  have hla : b.last = 2 := congrArg (fun x => x.2.1) hb0
  rw [hlv] at hc3
  rw [hla] at hc2
  clear r3 e3 b3 hb hb0 hlv hla hc1
  go_wp2
  go_ret
  exact ⟨rfl, B3.out⟩
end Go.Proofs.Ytjapjfcennemeaa.blk
