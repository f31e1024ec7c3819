/- BAsk: proved here in one text, no conditions beyond those that each theorem states. -/
import Derived.Deep.DeepCutAuto
import Derived.Deep.CutBlock
import Derived.Test.YtjapjfcennemeaaGreatZ42
import Derived.Test.YtjapjfcennemeaaGreatZ43
import Derived.Test.YtjapjfcennemeaaGreatZ48
import Derived.Test.YtjapjfcennemeaaGreatZ49
import Derived.Test.YtjapjfcennemeaaGreatZ47
import Derived.Test.YtjapjfcennemeaaGreatZ18
set_option linter.unusedVariables false
set_option linter.unusedSimpArgs false
namespace Go.Proofs.YtjapjfcennemeaaGreat.rnk
open Go.RowKit Go.Proofs.YtjapjfcennemeaaGreat.mem Go.Proofs.YtjapjfcennemeaaGreat.gro Go.Proofs.YtjapjfcennemeaaGreat.blk
set_option linter.unusedVariables false
set_option linter.unusedSimpArgs false
set_option pp.maxSteps 200000
theorem sureK_ok {xs : List K5} (h : (sureK xs).2 = 0) : okTo xs xs.length = true := by
  rcases Bool.eq_false_or_eq_true (okTo xs xs.length) with h2 | h2
  · exact h2
  · unfold sureK at h; rw [if_neg (by rw [h2]; exact Bool.false_ne_true)] at h; exact absurd h (by decide)
theorem mrgE_0 {a b : Int} {x y : L3} (h : mrgE a x b y = 0) : valR a x = true ∧ valR b y = true ∧ a + b ≤ 1099511627776 := by
  unfold mrgE at h
  split at h
  · rename_i h1
    split at h
    · exact ⟨h1.1, h1.2, by assumption⟩
    · exact absurd h (by decide)
  · exact absurd h (by decide)
theorem sureF_valid : ∀ (xs : List K5) (p : Int × L3), valR p.1 p.2 = true → (sureF p xs).2 = 0 → valR (sureF p xs).1.1 (sureF p xs).1.2 = true
  | [], p, h, _ => h
  | x :: r, p, h, h0 => by
    unfold sureF at h0 ⊢
    split at h0
    · rename_i he
      rw [if_pos he]
      obtain ⟨h1, h2, h3⟩ := mrgE_0 he
      refine sureF_valid r _ ?_ h0
      rw [mrgP_t h1 h2 h3]
      exact merge_valid h1 h2 h3
    · rename_i he
      exact absurd h0 he
theorem val_nil : valR 0 [] = true := valR_iff.2 ⟨⟨by omega, by omega, by simp⟩, fun i hi => absurd hi (Nat.not_lt_zero _), fun h => absurd h (Nat.lt_irrefl _)⟩
theorem sureK_valid {xs : List K5} (h : (sureK xs).2 = 0) : valR (sureK xs).1.1 (sureK xs).1.2 = true := by
  have hok := sureK_ok h
  cases xs with
  | nil => exact val_nil
  | cons x r =>
    rw [sureK_yes hok] at h ⊢
    refine sureF_valid r _ ?_ h
    have h0 := okTo_at hok (i := 0) (by simp)
    rw [atK_eq (by simp)] at h0
    unfold first1
    split
    · exact (okS_iff.1 (show okS (x.1, x.2.1, x.2.2.1, x.2.2.2.1, x.2.2.2.2) = true from h0)).1
    · exact val_one _
theorem sureK_bd {xs : List K5} {n : Nat} (hl : xs.length = n) (hE : okTo xs n = true → entsK xs ≤ 4000000) : (sureK xs).1.2.length ≤ 4000001 := by
  rcases Bool.eq_false_or_eq_true (okTo xs xs.length) with h2 | h2
  · have := sureK_len xs; have := hE (by rw [← hl]; exact h2); omega
  · unfold sureK; rw [if_neg (by rw [h2]; exact Bool.false_ne_true)]; simp
def quK (xs : List K5) (p q : Int) : Int × Int := if (sureK xs).2 = 0 then quaV (sureK xs).1.1 (sureK xs).1.2 p q else (0, (sureK xs).2)
def zer6 : Array Value := #[.int .i64 0, .int .i64 0, .int .i64 0, .int .i64 0, .int .i64 0, .int .i64 0]
def rkLo (xs : List K5) (v : Int) : Int := lw (sureK xs).1.2 (cutV (sureK xs).1.2 v)
def rkHi (xs : List K5) (v : Int) : Int := up (sureK xs).1.2 (sureK xs).1.1 (cutV (sureK xs).1.2 v) + 2 ^ (atK xs 0).2.2.1.toNat - 1
def rkK (xs : List K5) (v : Int) : Array Value := if (sureK xs).2 = 0 then (if xs.length = 0 then bnd6 0 0 else bnd6 (rkLo xs v) (rkHi xs v)) else zer6
theorem wrapE (x : Int) : wrap64 x = IntKind.i64.wrap x := by rw [IntKind.wrap_i64]; unfold wrap64; omega
theorem wrap_shl {l : Nat} (h : l ≤ 30) : wrap64 (2 ^ l) = 2 ^ l := by have := shl_nat h; exact this
set_option maxHeartbeats 8000000 in
set_option maxRecDepth 100000 in
theorem QuaB_any (A : Option Addr) (n c : Nat) (xs : List BlkM) (p q : Int) (hp64 : p ≤ 9223372036854775807) (hq64 : q ≤ 9223372036854775807) (w : World) (h1 : BRead w w.heap.size A n xs) (hs : n ≤ 65000) (hnc : n ≤ c) (hcm : c ≤ maxLen) (hE : okTo (xs.map bkey) n = true → entsK (xs.map bkey) ≤ 4000000) : Calls Tryz.prog 13 #[.slice A n c, .int .i64 p, .int .i64 q] w fun e w' => e = .returned (.tuple #[.int .i64 (quK (xs.map bkey) p q).1, .int .i64 (quK (xs.map bkey) p q).2]) ∧ Below w.heap.size w w' := by
  have HS := Lib.hid (SureB_any A n c xs w h1 hs hnc hcm hE)
  have hbd := sureK_bd (BRead.key_len h1) hE
  unfold quK
  generalize sureK (xs.map bkey) = S at *
  obtain ⟨⟨N, es⟩, er⟩ := S
  simp only [] at HS hbd ⊢
  have HQ := Lib.hid (fun A1 m1 c1 W (hr : ERead W W.heap.size A1 m1 es) => Quantile_any N A1 m1 c1 es p q W hr (by have := ERead.len hr; omega) hp64 hq64)
  clear h1 hE hbd
  by_cases her : er = 0
  case neg =>
    rw [if_neg her]
    clear HQ
    go_enter Tryz.func13, Tryz.ntmps13
    go_wp2_with fail
    refine HS.out.mono ?_
    rintro e w1 ⟨A1, m1, c1, rfl, p1, p2, p3, hb⟩
    have BB := Lib.hid hb
    clear hb p3 HS
    go_wp2
    refine bodyPost_ret (v := Value.tuple #[.int .i64 0, .int .i64 er]) (by simp [results, Tryz.results13, go_sem]) rfl ⟨rfl, BB.out.alloc BB.out.size _⟩
  subst her
  rw [if_pos rfl]
  generalize quaV N es p q = V at *
  obtain ⟨V1, V2⟩ := V
  simp only [] at HQ ⊢
  go_enter Tryz.func13, Tryz.ntmps13
  go_wp2_with fail
  refine HS.out.mono ?_
  rintro e w1 ⟨A1, m1, c1, rfl, p1, p2, p3, hb⟩
  have BB := Lib.hid hb
  have HR1 := Lib.hid p3
  clear hb p3 HS
  obtain ⟨g8, hg8⟩ : ∃ s, w1.heap.size = s := ⟨_, rfl⟩
  have BZ := Lib.hid (BB.out.alloc BB.out.size (.cells #[Value.int IntKind.i64 N, Value.slice A1 m1 c1] 39))
  have KZ := Lib.hid ((Bx.nil_ (W := w1)).new (t := 39) (c := #[Value.int IntKind.i64 N, Value.slice A1 m1 c1]) hg8)
  have hba : Below w1.heap.size w1 (w1.alloc (.cells #[Value.int IntKind.i64 N, Value.slice A1 m1 c1] 39)) := (Below.refl _ _).alloc (Nat.le_refl _) _
  have HZ := Lib.hid ((HR1.out.below hba).more hba.size)
  clear hba
  go_upto_region 2 with fail
  obtain ⟨W3, hW, K3, B3, z3⟩ := name_world KZ.out BZ.out (s := 0) (Nat.zero_le _)
  rw [hW] at HZ
  rw [hW]
  clear hW BB KZ BZ HR1 hg8
  have KK := Lib.hid K3
  have BB := Lib.hid B3
  have R := KK.out.rules
  simp only [Rules] at R
  clear K3 B3 z3
  go_wp2_with fail
  refine (HQ.out A1 m1 c1 _ HZ.out).mono ?_
  rintro e w2 ⟨rfl, hb⟩
  replace BB := Lib.hid (BB.out.trans (hb.mono BB.out.size))
  clear hb R KK HZ HQ
  go_wp2
  refine bodyPost_ret (v := Value.tuple #[.int .i64 V1, .int .i64 V2]) (by simp [results, Tryz.results13, go_sem]) rfl ⟨rfl, BB.out⟩
set_option maxHeartbeats 8000000 in
set_option maxRecDepth 100000 in
theorem QuaBR_any (A : Option Addr) (n c : Nat) (xs : List BlkM) (p q : Int) (hp64 : p ≤ 9223372036854775807) (hq64 : q ≤ 9223372036854775807) (w : World) (h1 : BRead w w.heap.size A n xs) (hs : n ≤ 65000) (hnc : n ≤ c) (hcm : c ≤ maxLen) (hE : okTo (xs.map bkey) n = true → entsK (xs.map bkey) ≤ 4000000) : Calls Tryz.prog 16 #[.slice A n c, .int .i64 p, .int .i64 q] w fun e w' => e = .returned (.tuple #[.int .i64 (quK (xs.map bkey) p q).1, .int .i64 (quK (xs.map bkey) p q).2]) ∧ Below w.heap.size w w' := by
  have HS := Lib.hid (SureBR_any A n c xs w h1 hs hnc hcm hE)
  have hbd := sureK_bd (BRead.key_len h1) hE
  unfold quK
  generalize sureK (xs.map bkey) = S at *
  obtain ⟨⟨N, es⟩, er⟩ := S
  simp only [] at HS hbd ⊢
  have HQ := Lib.hid (fun A1 m1 c1 W (hr : ERead W W.heap.size A1 m1 es) => QuantileR_any N A1 m1 c1 es p q W hr (by have := ERead.len hr; omega) hp64 hq64)
  clear h1 hE hbd
  by_cases her : er = 0
  case neg =>
    rw [if_neg her]
    clear HQ
    go_enter Tryz.func16, Tryz.ntmps16
    go_wp2_with fail
    refine HS.out.mono ?_
    rintro e w1 ⟨A1, m1, c1, rfl, p1, p2, p3, hb⟩
    have BB := Lib.hid hb
    clear hb p3 HS
    go_wp2
    refine bodyPost_ret (v := Value.tuple #[.int .i64 0, .int .i64 er]) (by simp [results, Tryz.results16, go_sem]) rfl ⟨rfl, BB.out.alloc BB.out.size _⟩
  subst her
  rw [if_pos rfl]
  generalize quaV N es p q = V at *
  obtain ⟨V1, V2⟩ := V
  simp only [] at HQ ⊢
  go_enter Tryz.func16, Tryz.ntmps16
  go_wp2_with fail
  refine HS.out.mono ?_
  rintro e w1 ⟨A1, m1, c1, rfl, p1, p2, p3, hb⟩
  have BB := Lib.hid hb
  have HR1 := Lib.hid p3
  clear hb p3 HS
  obtain ⟨g8, hg8⟩ : ∃ s, w1.heap.size = s := ⟨_, rfl⟩
  have BZ := Lib.hid (BB.out.alloc BB.out.size (.cells #[Value.int IntKind.i64 N, Value.slice A1 m1 c1] 39))
  have KZ := Lib.hid ((Bx.nil_ (W := w1)).new (t := 39) (c := #[Value.int IntKind.i64 N, Value.slice A1 m1 c1]) hg8)
  have hba : Below w1.heap.size w1 (w1.alloc (.cells #[Value.int IntKind.i64 N, Value.slice A1 m1 c1] 39)) := (Below.refl _ _).alloc (Nat.le_refl _) _
  have HZ := Lib.hid ((HR1.out.below hba).more hba.size)
  clear hba
  go_upto_region 2 with fail
  obtain ⟨W3, hW, K3, B3, z3⟩ := name_world KZ.out BZ.out (s := 0) (Nat.zero_le _)
  rw [hW] at HZ
  rw [hW]
  clear hW BB KZ BZ HR1 hg8
  have KK := Lib.hid K3
  have BB := Lib.hid B3
  have R := KK.out.rules
  simp only [Rules] at R
  clear K3 B3 z3
  go_wp2_with fail
  refine (HQ.out A1 m1 c1 _ HZ.out).mono ?_
  rintro e w2 ⟨rfl, hb⟩
  replace BB := Lib.hid (BB.out.trans (hb.mono BB.out.size))
  clear hb R KK HZ HQ
  go_wp2
  refine bodyPost_ret (v := Value.tuple #[.int .i64 V1, .int .i64 V2]) (by simp [results, Tryz.results16, go_sem]) rfl ⟨rfl, BB.out⟩
set_option maxHeartbeats 8000000 in
set_option maxRecDepth 100000 in
theorem Whole8_any (w : World) : Calls Tryz.prog 39 #[.int .i64 0] w fun e w' => e = .returned (.agg #[.int .i64 0, .int .i64 1, .int .i64 0, .int .i64 1, .int .i64 0, .int .i64 1]) ∧ Below w.heap.size w w' := by
  have HO0 := Lib.hid (fun W => wid.ofQR_any 0 W)
  have HX0 := Lib.hid (fun W => wid.ExactBR_any 0 1 (by unfold wid.I64; omega) (by unfold wid.I64; omega) W)
  rw [show wid.exN 0 1 = 0 from by decide, show wid.exD 0 1 = 1 from by decide] at HX0
  go_enter Tryz.func39, Tryz.ntmps39
  go_wp2_with fail
  obtain ⟨W0, hW, hs0, K0, B0⟩ := start1 w 33 #[Value.int IntKind.i64 0, Value.int IntKind.i64 0, Value.int IntKind.i64 0, Value.int IntKind.i64 0, Value.int IntKind.i64 0, Value.int IntKind.i64 0]
  rw [hW]
  clear hW
  have KK := Lib.hid K0
  have BB := Lib.hid B0
  have R := K0.rules
  simp only [Rules] at R
  clear K0 B0 hs0
  (with_reducible refine (HO0.out _).mono ?_)
  rintro e wv ⟨rfl, hbv⟩; replace BB := Lib.hid (BB.out.trans (hbv.mono BB.out.size)); replace KK := Lib.hid (KK.out.below hbv); replace R := KK.out.rules; simp only [gro.Rules] at R; clear hbv
  go_wp2_with fail
  (with_reducible refine (HX0.out _).mono ?_)
  rintro e wv ⟨rfl, hbv⟩; replace BB := Lib.hid (BB.out.trans (hbv.mono BB.out.size)); replace KK := Lib.hid (KK.out.below hbv); replace R := KK.out.rules; simp only [gro.Rules] at R; clear hbv
  go_wp2
  refine bodyPost_ret (v := Value.agg #[.int .i64 0, .int .i64 1, .int .i64 0, .int .i64 1, .int .i64 0, .int .i64 1]) (by simp [results, Tryz.results39, go_sem, R]) rfl ⟨rfl, ?_⟩
  exact Below.set6 BB.out (Nat.le_refl _) _ _ _ _ _ _
set_option maxHeartbeats 8000000 in
set_option maxRecDepth 100000 in
theorem RkB_any (A : Option Addr) (n c : Nat) (xs : List BlkM) (v : Int) (w : World) (h1 : BRead w w.heap.size A n xs) (hs : n ≤ 65000) (hnc : n ≤ c) (hcm : c ≤ maxLen) (hE : okTo (xs.map bkey) n = true → entsK (xs.map bkey) ≤ 4000000) : Calls Tryz.prog 17 #[.slice A n c, .int .i64 v] w fun e w' => e = .returned (.tuple #[.agg (rkK (xs.map bkey) v), .int .i64 (sureK (xs.map bkey)).2]) ∧ Below w.heap.size w w' := by
  have HS := Lib.hid (fun W (hb : Below w.heap.size w W) => SureB_any A n c xs W ((h1.below hb).more hb.size) hs hnc hcm hE)
  have hbd := sureK_bd (BRead.key_len h1) hE
  have hval := fun h => sureK_valid (xs := xs.map bkey) h
  have hok := fun h => sureK_ok (xs := xs.map bkey) h
  have hll := BRead.key_len h1
  have H1 := Lib.hid h1
  clear h1 hE
  unfold rkK
  by_cases her : (sureK (xs.map bkey)).2 = 0
  case neg =>
    rw [if_neg her]
    clear hval hok hbd
    generalize sureK (xs.map bkey) = S at *
    obtain ⟨⟨N, es⟩, er⟩ := S
    simp only [] at HS her ⊢
    go_enter Tryz.func17, Tryz.ntmps17
    go_upto_region 1 with fail
    obtain ⟨W0, hW, hs0, K0, B0⟩ := start1 w 33 #[Value.int IntKind.i64 0, Value.int IntKind.i64 0, Value.int IntKind.i64 0, Value.int IntKind.i64 0, Value.int IntKind.i64 0, Value.int IntKind.i64 0]
    rw [hW]
    clear hW
    have KK := Lib.hid K0
    have BB := Lib.hid B0
    clear K0 B0 hs0
    go_wp2_with fail
    refine (HS.out _ BB.out).mono ?_
    rintro e w1 ⟨A1, m1, c1, rfl, p1, p2, p3, hb⟩
    replace BB := Lib.hid (BB.out.trans (hb.mono BB.out.size))
    replace KK := Lib.hid (KK.out.below hb)
    have HR1 := Lib.hid p3
    clear hb p3 HS
    have hw1 : w.heap.size < w1.heap.size := (KK.out _ (List.mem_cons_self ..)).lt
    obtain ⟨g6, hg6⟩ : ∃ s, w1.heap.size = s := ⟨_, rfl⟩
    have BZ := Lib.hid (BB.out.alloc BB.out.size (.cells #[Value.int IntKind.i64 N, Value.slice A1 m1 c1] 39))
    have KZ := Lib.hid (KK.out.new (t := 39) (c := #[Value.int IntKind.i64 N, Value.slice A1 m1 c1]) hg6)
    have hba : Below w1.heap.size w1 (w1.alloc (.cells #[Value.int IntKind.i64 N, Value.slice A1 m1 c1] 39)) := (Below.refl _ _).alloc (Nat.le_refl _) _
    have HZ := Lib.hid ((HR1.out.below hba).more hba.size)
    clear hba
    go_upto_region 2 with fail
    obtain ⟨W3, hW, K3, B3, z3⟩ := name_world KZ.out BZ.out (s := g6 + 1) (by simp; omega)
    rw [hW] at HZ
    rw [hW]
    clear hW KK BB KZ BZ HR1
    have KK := Lib.hid K3
    have BB := Lib.hid B3
    have R := KK.out.rules
    simp only [Rules] at R
    clear K3 B3 z3
    have hwg : w.heap.size < g6 := by omega
    clear hw1 hg6
    clear HZ
    go_wp2
    rw [show zer6 = #[Value.int IntKind.i64 0, Value.int IntKind.i64 0, Value.int IntKind.i64 0, Value.int IntKind.i64 0, Value.int IntKind.i64 0, Value.int IntKind.i64 0] from rfl]
    refine bodyPost_ret (v := Value.tuple #[.agg #[Value.int IntKind.i64 0, Value.int IntKind.i64 0, Value.int IntKind.i64 0, Value.int IntKind.i64 0, Value.int IntKind.i64 0, Value.int IntKind.i64 0], .int .i64 er]) (by simp [results, Tryz.results17, go_sem, R, bnd6]) rfl ⟨rfl, ?_⟩
    exact Below.set6 BB.out (Nat.le_refl _) _ _ _ _ _ _
  rw [if_pos her]
  have hv := hval her
  have ho := hok her
  clear hval hok
  rw [hll] at ho ⊢
  unfold rkLo rkHi
  rcases Nat.eq_zero_or_pos n with h0 | h0
  case inl =>
    rw [if_pos h0]
    subst h0
    clear hv ho hbd
    generalize sureK (xs.map bkey) = S at *
    obtain ⟨⟨N, es⟩, er⟩ := S
    simp only [] at HS her ⊢
    subst her
    rw [show bnd6 0 0 = #[.int .i64 0, .int .i64 1, .int .i64 0, .int .i64 1, .int .i64 0, .int .i64 1] from rfl]
    have HO0 := Lib.hid (fun W => wid.ofQ_any 0 W)
    have HX0 := Lib.hid (fun W => wid.ExactB_any 0 1 (by unfold wid.I64; omega) (by unfold wid.I64; omega) W)
    rw [show wid.exN 0 1 = 0 from by decide, show wid.exD 0 1 = 1 from by decide] at HX0
    go_enter Tryz.func17, Tryz.ntmps17
    go_upto_region 1 with fail
    obtain ⟨W0, hW, hs0, K0, B0⟩ := start1 w 33 #[Value.int IntKind.i64 0, Value.int IntKind.i64 0, Value.int IntKind.i64 0, Value.int IntKind.i64 0, Value.int IntKind.i64 0, Value.int IntKind.i64 0]
    rw [hW]
    clear hW
    have KK := Lib.hid K0
    have BB := Lib.hid B0
    clear K0 B0 hs0
    go_wp2_with fail
    refine (HS.out _ BB.out).mono ?_
    rintro e w1 ⟨A1, m1, c1, rfl, p1, p2, p3, hb⟩
    replace BB := Lib.hid (BB.out.trans (hb.mono BB.out.size))
    replace KK := Lib.hid (KK.out.below hb)
    have HR1 := Lib.hid p3
    clear hb p3 HS
    have hw1 : w.heap.size < w1.heap.size := (KK.out _ (List.mem_cons_self ..)).lt
    obtain ⟨g6, hg6⟩ : ∃ s, w1.heap.size = s := ⟨_, rfl⟩
    have BZ := Lib.hid (BB.out.alloc BB.out.size (.cells #[Value.int IntKind.i64 N, Value.slice A1 m1 c1] 39))
    have KZ := Lib.hid (KK.out.new (t := 39) (c := #[Value.int IntKind.i64 N, Value.slice A1 m1 c1]) hg6)
    have hba : Below w1.heap.size w1 (w1.alloc (.cells #[Value.int IntKind.i64 N, Value.slice A1 m1 c1] 39)) := (Below.refl _ _).alloc (Nat.le_refl _) _
    have HZ := Lib.hid ((HR1.out.below hba).more hba.size)
    clear hba
    go_upto_region 2 with fail
    obtain ⟨W3, hW, K3, B3, z3⟩ := name_world KZ.out BZ.out (s := g6 + 1) (by simp; omega)
    rw [hW] at HZ
    rw [hW]
    clear hW KK BB KZ BZ HR1
    have KK := Lib.hid K3
    have BB := Lib.hid B3
    have R := KK.out.rules
    simp only [Rules] at R
    clear K3 B3 z3
    have hwg : w.heap.size < g6 := by omega
    clear hw1 hg6
    clear HZ
    go_wp2_with fail
    (with_reducible refine (HO0.out _).mono ?_)
    rintro e wv ⟨rfl, hbv⟩; replace BB := Lib.hid (BB.out.trans (hbv.mono BB.out.size)); replace KK := Lib.hid (KK.out.below hbv); replace R := KK.out.rules; simp only [gro.Rules] at R; clear hbv
    go_wp2_with fail
    (with_reducible refine (HX0.out _).mono ?_)
    rintro e wv ⟨rfl, hbv⟩; replace BB := Lib.hid (BB.out.trans (hbv.mono BB.out.size)); replace KK := Lib.hid (KK.out.below hbv); replace R := KK.out.rules; simp only [gro.Rules] at R; clear hbv
    go_wp2
    refine bodyPost_ret (v := Value.tuple #[.agg #[.int .i64 0, .int .i64 1, .int .i64 0, .int .i64 1, .int .i64 0, .int .i64 1], .int .i64 0]) (by simp [results, Tryz.results17, go_sem, R, bnd6]) rfl ⟨rfl, ?_⟩
    exact Below.set6 BB.out (Nat.le_refl _) _ _ _ _ _ _
  rw [if_neg (by omega)]
  obtain ⟨ad, x, rfl, hbl, hx, HC, hz1, hz2, hz3⟩ := BRead.zero H1.out h0
  clear hz1 hz2 hz3
  have hK := atK_key hx
  have hlv := okTo_at ho (i := 0) h0
  rw [hK] at hlv ⊢
  have hl2 := (okS_iff.1 hlv).2
  clear hlv hK hx ho
  simp only []
  generalize sureK (xs.map bkey) = S at *
  obtain ⟨⟨N, es⟩, er⟩ := S
  simp only [] at HS her hv hbd ⊢
  subst her
  have HX := Lib.hid (fun W hb => (HC.out W hb).2.2.1)
  clear HC
  generalize x.level = lv at *
  clear x
  obtain ⟨l, rfl⟩ := Int.eq_ofNat_of_zero_le hl2.1
  rw [Int.toNat_natCast]
  have hl30 : l ≤ 30 := by omega
  have hsh := wrap_shl hl30
  have hP := pow30 hl30
  have hcv := lwup_bd hv (cutV_spec v es).1
  have hN := (valR_iff.1 hv).1
  have HRk := Lib.hid (fun A1 m1 c1 W (hr : ERead W W.heap.size A1 m1 es) => Rank_any N A1 m1 c1 es v W hr (by have := ERead.len hr; omega))
  unfold rankV at HRk
  simp only [if_pos hv] at HRk
  clear hv hl2
  generalize lw es (cutV es v) = lo at *
  generalize up es N (cutV es v) = hi at *
  obtain ⟨P, hPe⟩ : ∃ P : Int, (2 : Int) ^ l = P := ⟨_, rfl⟩
  rw [hPe] at hP ⊢
  have hsh2 := Lib.hid (show wrap64 (2 ^ l) = P from hsh.trans hPe)
  clear hPe hsh
  have e1 : IntKind.i64.wrap (hi + P) = hi + P := IntWalk.i64_in _ (by omega)
  have e2 : IntKind.i64.wrap (hi + P - 1) = hi + P - 1 := IntWalk.i64_in _ (by omega)
  have HW0 := Lib.hid (fun W => wid.WholeB_any lo (hi + P - 1) (by unfold wid.I64; omega) (by unfold wid.I64; omega) W)
  have hle : lo ≤ hi + P - 1 := by omega
  simp only [wid.whl, if_pos hle, decide_eq_true hle] at HW0
  have hfm : wrap64 (wrap64 (hi + wrap64 (2 ^ l)) - 1) = hi + P - 1 := by rw [hsh2.out, wrapE (hi + P), e1, wrapE, e2]
  have HW : Hid (∀ W, Calls Tryz.prog 38 #[.int .i64 lo, .int .i64 (wrap64 (wrap64 (hi + wrap64 (2 ^ l)) - 1))] W fun e w' => e = .returned (.tuple #[.agg #[.int .i64 lo, .int .i64 1, .int .i64 ((lo + (hi + P - 1)) / 2), .int .i64 1, .int .i64 (hi + P - 1), .int .i64 1], .bool true]) ∧ Below W.heap.size W w') := fun W => by rw [hfm]; exact HW0.out W
  clear hle HW0 hfm hsh2 e1 e2
  go_enter Tryz.func17, Tryz.ntmps17
  go_upto_region 1 with fail
  obtain ⟨W0, hW, hs0, K0, B0⟩ := start1 w 33 #[Value.int IntKind.i64 0, Value.int IntKind.i64 0, Value.int IntKind.i64 0, Value.int IntKind.i64 0, Value.int IntKind.i64 0, Value.int IntKind.i64 0]
  rw [hW]
  clear hW
  have KK := Lib.hid K0
  have BB := Lib.hid B0
  clear K0 B0 hs0
  go_wp2_with fail
  refine (HS.out _ BB.out).mono ?_
  rintro e w1 ⟨A1, m1, c1, rfl, p1, p2, p3, hb⟩
  replace BB := Lib.hid (BB.out.trans (hb.mono BB.out.size))
  replace KK := Lib.hid (KK.out.below hb)
  have HR1 := Lib.hid p3
  clear hb p3 HS
  have hw1 : w.heap.size < w1.heap.size := (KK.out _ (List.mem_cons_self ..)).lt
  obtain ⟨g6, hg6⟩ : ∃ s, w1.heap.size = s := ⟨_, rfl⟩
  have BZ := Lib.hid (BB.out.alloc BB.out.size (.cells #[Value.int IntKind.i64 N, Value.slice A1 m1 c1] 39))
  have KZ := Lib.hid (KK.out.new (t := 39) (c := #[Value.int IntKind.i64 N, Value.slice A1 m1 c1]) hg6)
  have hba : Below w1.heap.size w1 (w1.alloc (.cells #[Value.int IntKind.i64 N, Value.slice A1 m1 c1] 39)) := (Below.refl _ _).alloc (Nat.le_refl _) _
  have HZ := Lib.hid ((HR1.out.below hba).more hba.size)
  clear hba
  go_upto_region 2 with fail
  obtain ⟨W3, hW, K3, B3, z3⟩ := name_world KZ.out BZ.out (s := g6 + 1) (by simp; omega)
  rw [hW] at HZ
  rw [hW]
  clear hW KK BB KZ BZ HR1
  have KK := Lib.hid K3
  have BB := Lib.hid B3
  have R := KK.out.rules
  simp only [Rules] at R
  clear K3 B3 z3
  have hwg : w.heap.size < g6 := by omega
  clear hw1 hg6
  go_wp2_with fail
  refine (HRk.out A1 m1 c1 _ HZ.out).mono ?_
  rintro e w2 ⟨rfl, hb⟩
  replace BB := Lib.hid (BB.out.trans (hb.mono BB.out.size))
  replace KK := Lib.hid (KK.out.below hb)
  clear hb R HRk HZ
  have hw2 : g6 < w2.heap.size := (KK.out _ (List.mem_cons_self ..)).lt
  obtain ⟨g8, hg8⟩ : ∃ s, w2.heap.size = s := ⟨_, rfl⟩
  have BZ := Lib.hid (BB.out.alloc BB.out.size (.cells (bnd6 lo hi) 33))
  have KZ := Lib.hid (KK.out.new (t := 33) (c := bnd6 lo hi) hg8)
  unfold bnd6 at BZ KZ
  have hg68 : g6 < g8 := by omega
  unfold bnd6
  go_upto_region 9 with fail
  obtain ⟨W4, hW, K3, B3, z3⟩ := name_world KZ.out BZ.out (s := g8 + 1) (by simp; omega)
  rw [hW]
  clear hW KK BB KZ BZ hw2 hg8
  have KK := Lib.hid K3
  have BB := Lib.hid B3
  have R := KK.out.rules
  simp only [Rules] at R
  clear K3 B3
  have hcx := HX.out _ BB.out
  (refine gro.wp_region_steady_n 18 3 (by kernel_rfl) (by kernel_rfl) (by intro _ _ _ _ _ h; exact h) (by kernel_rfl) (by kernel_rfl) (by kernel_rfl) ?_; apply Exists.intro; refine ⟨fun w0 hb0 => ?_, ?_⟩; focus (have KZ := (KK.out).below hb0; have RZ := KZ.rules; have hcz := HX.out _ (BB.out.trans (hb0.mono BB.out.size)); simp only [gro.Rules] at RZ; simp only [List.take_succ_cons, List.take_zero]; (repeat (go_big_quiet_step ((go_at_call 38; exact call_grown (HW.out _))))); exact wpQuiet_nil rfl))
  refine gro.anyG_one 18 (by kernel_rfl) rfl ?_
  intro y1 hz1 K' hK'
  have KY1 := KK.out.drew.below hz1
  have BY1 := hz1
  go_simp
  refine hK' _ _ ⟨BY1.alloc BY1.size _, ?_⟩
  clear hK' K'
  obtain ⟨g9, hg9⟩ : ∃ p, y1.heap.size = p := ⟨_, rfl⟩
  have KY2 := KY1.new (t := 33) (c := #[Value.int IntKind.i64 0, Value.int IntKind.i64 0, Value.int IntKind.i64 0, Value.int IntKind.i64 0, Value.int IntKind.i64 0, Value.int IntKind.i64 0]) hg9
  have BY2 := BY1.alloc BY1.size (.cells #[Value.int IntKind.i64 0, Value.int IntKind.i64 0, Value.int IntKind.i64 0, Value.int IntKind.i64 0, Value.int IntKind.i64 0, Value.int IntKind.i64 0] 33)
  have sY2 : (y1.alloc (.cells #[Value.int IntKind.i64 0, Value.int IntKind.i64 0, Value.int IntKind.i64 0, Value.int IntKind.i64 0, Value.int IntKind.i64 0, Value.int IntKind.i64 0] 33)).heap.size = g9 + 1 := by simp [hg9]
  have hl := hz1.size
  rw [hg9] at hl ⊢
  have hm := hl
  try simp at hm
  generalize y1.alloc (.cells #[Value.int IntKind.i64 0, Value.int IntKind.i64 0, Value.int IntKind.i64 0, Value.int IntKind.i64 0, Value.int IntKind.i64 0, Value.int IntKind.i64 0] 33) = yy2 at *
  have hg89 : g8 < g9 := by have : W4.heap.size ≤ g9 := hl; omega
  refine gro.anyG_one 19 (by kernel_rfl) rfl ?_
  intro y3 hz3 K' hK'
  have KY3 := KY2.below hz3
  have BY3 := BY2.trans (hz3.mono BY2.size)
  have RY := KY3.rules
  simp only [gro.Rules] at RY
  go_simp
  have BX := gro.Below.set6 (g := g9) BY3 (by omega) (.int .i64 lo) (.int .i64 1) (.int .i64 ((lo + (hi + P - 1)) / 2)) (.int .i64 1) (.int .i64 (hi + P - 1)) (.int .i64 1)
  refine hK' _ _ ⟨BX, ?_⟩
  clear hK' K' RY
  obtain ⟨yy4, hy4, KY4, BY4, sY4⟩ := name_world (gro.Bx.put6 (u0 := .int .i64 lo) (u1 := .int .i64 1) (u2 := .int .i64 ((lo + (hi + P - 1)) / 2)) (u3 := .int .i64 1) (u4 := .int .i64 (hi + P - 1)) (u5 := .int .i64 1) KY3 (by simp; omega)) BX (s := 0) (by omega)
  rw [hy4]
  clear hy4
  refine gro.anyG_one 20 (by kernel_rfl) rfl ?_
  intro y5 hz5 K' hK'
  have KY5 := KY4.below hz5
  have BY5 := BY4.trans (hz5.mono BY4.size)
  go_simp
  refine hK' _ _ ⟨BY5, ?_⟩
  clear hK' K'
  refine gro.anyG_done (by kernel_rfl) ?_
  intro y6 hz6
  have KY6 := KY5.below hz6
  have BY6 := BY5.trans (hz6.mono BY5.size)
  replace BB := Lib.hid ((BB.out.drew).trans (BY6.mono BB.out.size))
  replace KK := Lib.hid KY6
  clear R hcx KY1 BY1 KY2 BY2 KY3 BY3 BX KY4 BY4 KY5 BY5 KY6 BY6 hz1 hz3 hz5 hz6 hl hm sY2 sY4 HW HX
  have R := KK.out.rules
  simp only [Rules] at R
  go_wp2
  refine bodyPost_ret (v := Value.tuple #[.agg (bnd6 lo (hi + P - 1)), .int .i64 0]) (by simp [results, Tryz.results17, go_sem, R, bnd6]) rfl ⟨rfl, ?_⟩
  exact Below.set6 BB.out (Nat.le_refl _) _ _ _ _ _ _
set_option maxHeartbeats 8000000 in
set_option maxRecDepth 100000 in
theorem RkBR_any (A : Option Addr) (n c : Nat) (xs : List BlkM) (v : Int) (w : World) (h1 : BRead w w.heap.size A n xs) (hs : n ≤ 65000) (hnc : n ≤ c) (hcm : c ≤ maxLen) (hE : okTo (xs.map bkey) n = true → entsK (xs.map bkey) ≤ 4000000) : Calls Tryz.prog 18 #[.slice A n c, .int .i64 v] w fun e w' => e = .returned (.tuple #[.agg (rkK (xs.map bkey) v), .int .i64 (sureK (xs.map bkey)).2]) ∧ Below w.heap.size w w' := by
  have HS := Lib.hid (fun W (hb : Below w.heap.size w W) => SureBR_any A n c xs W ((h1.below hb).more hb.size) hs hnc hcm hE)
  have hbd := sureK_bd (BRead.key_len h1) hE
  have hval := fun h => sureK_valid (xs := xs.map bkey) h
  have hok := fun h => sureK_ok (xs := xs.map bkey) h
  have hll := BRead.key_len h1
  have H1 := Lib.hid h1
  clear h1 hE
  unfold rkK
  by_cases her : (sureK (xs.map bkey)).2 = 0
  case neg =>
    rw [if_neg her]
    clear hval hok hbd
    generalize sureK (xs.map bkey) = S at *
    obtain ⟨⟨N, es⟩, er⟩ := S
    simp only [] at HS her ⊢
    go_enter Tryz.func18, Tryz.ntmps18
    go_upto_region 1 with fail
    obtain ⟨W0, hW, hs0, K0, B0⟩ := start1 w 33 #[Value.int IntKind.i64 0, Value.int IntKind.i64 0, Value.int IntKind.i64 0, Value.int IntKind.i64 0, Value.int IntKind.i64 0, Value.int IntKind.i64 0]
    rw [hW]
    clear hW
    have KK := Lib.hid K0
    have BB := Lib.hid B0
    clear K0 B0 hs0
    go_wp2_with fail
    refine (HS.out _ BB.out).mono ?_
    rintro e w1 ⟨A1, m1, c1, rfl, p1, p2, p3, hb⟩
    replace BB := Lib.hid (BB.out.trans (hb.mono BB.out.size))
    replace KK := Lib.hid (KK.out.below hb)
    have HR1 := Lib.hid p3
    clear hb p3 HS
    have hw1 : w.heap.size < w1.heap.size := (KK.out _ (List.mem_cons_self ..)).lt
    obtain ⟨g6, hg6⟩ : ∃ s, w1.heap.size = s := ⟨_, rfl⟩
    have BZ := Lib.hid (BB.out.alloc BB.out.size (.cells #[Value.int IntKind.i64 N, Value.slice A1 m1 c1] 39))
    have KZ := Lib.hid (KK.out.new (t := 39) (c := #[Value.int IntKind.i64 N, Value.slice A1 m1 c1]) hg6)
    have hba : Below w1.heap.size w1 (w1.alloc (.cells #[Value.int IntKind.i64 N, Value.slice A1 m1 c1] 39)) := (Below.refl _ _).alloc (Nat.le_refl _) _
    have HZ := Lib.hid ((HR1.out.below hba).more hba.size)
    clear hba
    go_upto_region 2 with fail
    obtain ⟨W3, hW, K3, B3, z3⟩ := name_world KZ.out BZ.out (s := g6 + 1) (by simp; omega)
    rw [hW] at HZ
    rw [hW]
    clear hW KK BB KZ BZ HR1
    have KK := Lib.hid K3
    have BB := Lib.hid B3
    have R := KK.out.rules
    simp only [Rules] at R
    clear K3 B3 z3
    have hwg : w.heap.size < g6 := by omega
    clear hw1 hg6
    clear HZ
    go_wp2
    rw [show zer6 = #[Value.int IntKind.i64 0, Value.int IntKind.i64 0, Value.int IntKind.i64 0, Value.int IntKind.i64 0, Value.int IntKind.i64 0, Value.int IntKind.i64 0] from rfl]
    refine bodyPost_ret (v := Value.tuple #[.agg #[Value.int IntKind.i64 0, Value.int IntKind.i64 0, Value.int IntKind.i64 0, Value.int IntKind.i64 0, Value.int IntKind.i64 0, Value.int IntKind.i64 0], .int .i64 er]) (by simp [results, Tryz.results18, go_sem, R, bnd6]) rfl ⟨rfl, ?_⟩
    exact Below.set6 BB.out (Nat.le_refl _) _ _ _ _ _ _
  rw [if_pos her]
  have hv := hval her
  have ho := hok her
  clear hval hok
  rw [hll] at ho ⊢
  unfold rkLo rkHi
  rcases Nat.eq_zero_or_pos n with h0 | h0
  case inl =>
    rw [if_pos h0]
    subst h0
    clear hv ho hbd
    generalize sureK (xs.map bkey) = S at *
    obtain ⟨⟨N, es⟩, er⟩ := S
    simp only [] at HS her ⊢
    subst her
    rw [show bnd6 0 0 = #[.int .i64 0, .int .i64 1, .int .i64 0, .int .i64 1, .int .i64 0, .int .i64 1] from rfl]
    have HX0 := Lib.hid (fun W => Whole8_any W)
    go_enter Tryz.func18, Tryz.ntmps18
    go_upto_region 1 with fail
    obtain ⟨W0, hW, hs0, K0, B0⟩ := start1 w 33 #[Value.int IntKind.i64 0, Value.int IntKind.i64 0, Value.int IntKind.i64 0, Value.int IntKind.i64 0, Value.int IntKind.i64 0, Value.int IntKind.i64 0]
    rw [hW]
    clear hW
    have KK := Lib.hid K0
    have BB := Lib.hid B0
    clear K0 B0 hs0
    go_wp2_with fail
    refine (HS.out _ BB.out).mono ?_
    rintro e w1 ⟨A1, m1, c1, rfl, p1, p2, p3, hb⟩
    replace BB := Lib.hid (BB.out.trans (hb.mono BB.out.size))
    replace KK := Lib.hid (KK.out.below hb)
    have HR1 := Lib.hid p3
    clear hb p3 HS
    have hw1 : w.heap.size < w1.heap.size := (KK.out _ (List.mem_cons_self ..)).lt
    obtain ⟨g6, hg6⟩ : ∃ s, w1.heap.size = s := ⟨_, rfl⟩
    have BZ := Lib.hid (BB.out.alloc BB.out.size (.cells #[Value.int IntKind.i64 N, Value.slice A1 m1 c1] 39))
    have KZ := Lib.hid (KK.out.new (t := 39) (c := #[Value.int IntKind.i64 N, Value.slice A1 m1 c1]) hg6)
    have hba : Below w1.heap.size w1 (w1.alloc (.cells #[Value.int IntKind.i64 N, Value.slice A1 m1 c1] 39)) := (Below.refl _ _).alloc (Nat.le_refl _) _
    have HZ := Lib.hid ((HR1.out.below hba).more hba.size)
    clear hba
    go_upto_region 2 with fail
    obtain ⟨W3, hW, K3, B3, z3⟩ := name_world KZ.out BZ.out (s := g6 + 1) (by simp; omega)
    rw [hW] at HZ
    rw [hW]
    clear hW KK BB KZ BZ HR1
    have KK := Lib.hid K3
    have BB := Lib.hid B3
    have R := KK.out.rules
    simp only [Rules] at R
    clear K3 B3 z3
    have hwg : w.heap.size < g6 := by omega
    clear hw1 hg6
    clear HZ
    go_wp2_with fail
    (with_reducible refine (HX0.out _).mono ?_)
    rintro e wv ⟨rfl, hbv⟩; replace BB := Lib.hid (BB.out.trans (hbv.mono BB.out.size)); replace KK := Lib.hid (KK.out.below hbv); replace R := KK.out.rules; simp only [gro.Rules] at R; clear hbv
    go_wp2
    refine bodyPost_ret (v := Value.tuple #[.agg #[.int .i64 0, .int .i64 1, .int .i64 0, .int .i64 1, .int .i64 0, .int .i64 1], .int .i64 0]) (by simp [results, Tryz.results18, go_sem, R, bnd6]) rfl ⟨rfl, ?_⟩
    exact Below.set6 BB.out (Nat.le_refl _) _ _ _ _ _ _
  rw [if_neg (by omega)]
  obtain ⟨ad, x, rfl, hbl, hx, HC, hz1, hz2, hz3⟩ := BRead.zero H1.out h0
  clear hz1 hz2 hz3
  have hK := atK_key hx
  have hlv := okTo_at ho (i := 0) h0
  rw [hK] at hlv ⊢
  have hl2 := (okS_iff.1 hlv).2
  clear hlv hK hx ho
  simp only []
  generalize sureK (xs.map bkey) = S at *
  obtain ⟨⟨N, es⟩, er⟩ := S
  simp only [] at HS her hv hbd ⊢
  subst her
  have HX := Lib.hid (fun W hb => (HC.out W hb).2.2.1)
  clear HC
  generalize x.level = lv at *
  clear x
  obtain ⟨l, rfl⟩ := Int.eq_ofNat_of_zero_le hl2.1
  rw [Int.toNat_natCast]
  have hl30 : l ≤ 30 := by omega
  have hsh := wrap_shl hl30
  have hP := pow30 hl30
  have hcv := lwup_bd hv (cutV_spec v es).1
  have hN := (valR_iff.1 hv).1
  have HRk := Lib.hid (fun A1 m1 c1 W (hr : ERead W W.heap.size A1 m1 es) => RankR_any N A1 m1 c1 es v W hr (by have := ERead.len hr; omega))
  unfold rankV at HRk
  simp only [if_pos hv] at HRk
  clear hv hl2
  generalize lw es (cutV es v) = lo at *
  generalize up es N (cutV es v) = hi at *
  obtain ⟨P, hPe⟩ : ∃ P : Int, (2 : Int) ^ l = P := ⟨_, rfl⟩
  rw [hPe] at hP ⊢
  have hsh2 := Lib.hid (show wrap64 (2 ^ l) = P from hsh.trans hPe)
  clear hPe hsh
  have e1 : IntKind.i64.wrap (hi + P) = hi + P := IntWalk.i64_in _ (by omega)
  have e2 : IntKind.i64.wrap (hi + P - 1) = hi + P - 1 := IntWalk.i64_in _ (by omega)
  have HW0 := Lib.hid (fun W => wid.WholeBR_any lo (hi + P - 1) (by unfold wid.I64; omega) (by unfold wid.I64; omega) W)
  have hle : lo ≤ hi + P - 1 := by omega
  simp only [wid.whl, if_pos hle, decide_eq_true hle] at HW0
  have hfm : wrap64 (wrap64 (hi + wrap64 (2 ^ l)) - 1) = hi + P - 1 := by rw [hsh2.out, wrapE (hi + P), e1, wrapE, e2]
  have HW : Hid (∀ W, Calls Tryz.prog 41 #[.int .i64 lo, .int .i64 (wrap64 (wrap64 (hi + wrap64 (2 ^ l)) - 1))] W fun e w' => e = .returned (.tuple #[.agg #[.int .i64 lo, .int .i64 1, .int .i64 ((lo + (hi + P - 1)) / 2), .int .i64 1, .int .i64 (hi + P - 1), .int .i64 1], .bool true]) ∧ Below W.heap.size W w') := fun W => by rw [hfm]; exact HW0.out W
  clear hle HW0 hfm hsh2 e1 e2
  go_enter Tryz.func18, Tryz.ntmps18
  go_upto_region 1 with fail
  obtain ⟨W0, hW, hs0, K0, B0⟩ := start1 w 33 #[Value.int IntKind.i64 0, Value.int IntKind.i64 0, Value.int IntKind.i64 0, Value.int IntKind.i64 0, Value.int IntKind.i64 0, Value.int IntKind.i64 0]
  rw [hW]
  clear hW
  have KK := Lib.hid K0
  have BB := Lib.hid B0
  clear K0 B0 hs0
  go_wp2_with fail
  refine (HS.out _ BB.out).mono ?_
  rintro e w1 ⟨A1, m1, c1, rfl, p1, p2, p3, hb⟩
  replace BB := Lib.hid (BB.out.trans (hb.mono BB.out.size))
  replace KK := Lib.hid (KK.out.below hb)
  have HR1 := Lib.hid p3
  clear hb p3 HS
  have hw1 : w.heap.size < w1.heap.size := (KK.out _ (List.mem_cons_self ..)).lt
  obtain ⟨g6, hg6⟩ : ∃ s, w1.heap.size = s := ⟨_, rfl⟩
  have BZ := Lib.hid (BB.out.alloc BB.out.size (.cells #[Value.int IntKind.i64 N, Value.slice A1 m1 c1] 39))
  have KZ := Lib.hid (KK.out.new (t := 39) (c := #[Value.int IntKind.i64 N, Value.slice A1 m1 c1]) hg6)
  have hba : Below w1.heap.size w1 (w1.alloc (.cells #[Value.int IntKind.i64 N, Value.slice A1 m1 c1] 39)) := (Below.refl _ _).alloc (Nat.le_refl _) _
  have HZ := Lib.hid ((HR1.out.below hba).more hba.size)
  clear hba
  go_upto_region 2 with fail
  obtain ⟨W3, hW, K3, B3, z3⟩ := name_world KZ.out BZ.out (s := g6 + 1) (by simp; omega)
  rw [hW] at HZ
  rw [hW]
  clear hW KK BB KZ BZ HR1
  have KK := Lib.hid K3
  have BB := Lib.hid B3
  have R := KK.out.rules
  simp only [Rules] at R
  clear K3 B3 z3
  have hwg : w.heap.size < g6 := by omega
  clear hw1 hg6
  go_wp2_with fail
  refine (HRk.out A1 m1 c1 _ HZ.out).mono ?_
  rintro e w2 ⟨rfl, hb⟩
  replace BB := Lib.hid (BB.out.trans (hb.mono BB.out.size))
  replace KK := Lib.hid (KK.out.below hb)
  clear hb R HRk HZ
  have hw2 : g6 < w2.heap.size := (KK.out _ (List.mem_cons_self ..)).lt
  obtain ⟨g8, hg8⟩ : ∃ s, w2.heap.size = s := ⟨_, rfl⟩
  have BZ := Lib.hid (BB.out.alloc BB.out.size (.cells (bnd6 lo hi) 33))
  have KZ := Lib.hid (KK.out.new (t := 33) (c := bnd6 lo hi) hg8)
  unfold bnd6 at BZ KZ
  have hg68 : g6 < g8 := by omega
  unfold bnd6
  go_upto_region 9 with fail
  obtain ⟨W4, hW, K3, B3, z3⟩ := name_world KZ.out BZ.out (s := g8 + 1) (by simp; omega)
  rw [hW]
  clear hW KK BB KZ BZ hw2 hg8
  have KK := Lib.hid K3
  have BB := Lib.hid B3
  have R := KK.out.rules
  simp only [Rules] at R
  clear K3 B3
  have hcx := HX.out _ BB.out
  (refine gro.wp_region_steady_n 18 3 (by kernel_rfl) (by kernel_rfl) (by intro _ _ _ _ _ h; exact h) (by kernel_rfl) (by kernel_rfl) (by kernel_rfl) ?_; apply Exists.intro; refine ⟨fun w0 hb0 => ?_, ?_⟩; focus (have KZ := (KK.out).below hb0; have RZ := KZ.rules; have hcz := HX.out _ (BB.out.trans (hb0.mono BB.out.size)); simp only [gro.Rules] at RZ; simp only [List.take_succ_cons, List.take_zero]; (repeat (go_big_quiet_step ((go_at_call 41; exact call_grown (HW.out _))))); exact wpQuiet_nil rfl))
  refine gro.anyG_one 18 (by kernel_rfl) rfl ?_
  intro y1 hz1 K' hK'
  have KY1 := KK.out.drew.below hz1
  have BY1 := hz1
  go_simp
  refine hK' _ _ ⟨BY1.alloc BY1.size _, ?_⟩
  clear hK' K'
  obtain ⟨g9, hg9⟩ : ∃ p, y1.heap.size = p := ⟨_, rfl⟩
  have KY2 := KY1.new (t := 33) (c := #[Value.int IntKind.i64 0, Value.int IntKind.i64 0, Value.int IntKind.i64 0, Value.int IntKind.i64 0, Value.int IntKind.i64 0, Value.int IntKind.i64 0]) hg9
  have BY2 := BY1.alloc BY1.size (.cells #[Value.int IntKind.i64 0, Value.int IntKind.i64 0, Value.int IntKind.i64 0, Value.int IntKind.i64 0, Value.int IntKind.i64 0, Value.int IntKind.i64 0] 33)
  have sY2 : (y1.alloc (.cells #[Value.int IntKind.i64 0, Value.int IntKind.i64 0, Value.int IntKind.i64 0, Value.int IntKind.i64 0, Value.int IntKind.i64 0, Value.int IntKind.i64 0] 33)).heap.size = g9 + 1 := by simp [hg9]
  have hl := hz1.size
  rw [hg9] at hl ⊢
  have hm := hl
  try simp at hm
  generalize y1.alloc (.cells #[Value.int IntKind.i64 0, Value.int IntKind.i64 0, Value.int IntKind.i64 0, Value.int IntKind.i64 0, Value.int IntKind.i64 0, Value.int IntKind.i64 0] 33) = yy2 at *
  have hg89 : g8 < g9 := by have : W4.heap.size ≤ g9 := hl; omega
  refine gro.anyG_one 19 (by kernel_rfl) rfl ?_
  intro y3 hz3 K' hK'
  have KY3 := KY2.below hz3
  have BY3 := BY2.trans (hz3.mono BY2.size)
  have RY := KY3.rules
  simp only [gro.Rules] at RY
  go_simp
  have BX := gro.Below.set6 (g := g9) BY3 (by omega) (.int .i64 lo) (.int .i64 1) (.int .i64 ((lo + (hi + P - 1)) / 2)) (.int .i64 1) (.int .i64 (hi + P - 1)) (.int .i64 1)
  refine hK' _ _ ⟨BX, ?_⟩
  clear hK' K' RY
  obtain ⟨yy4, hy4, KY4, BY4, sY4⟩ := name_world (gro.Bx.put6 (u0 := .int .i64 lo) (u1 := .int .i64 1) (u2 := .int .i64 ((lo + (hi + P - 1)) / 2)) (u3 := .int .i64 1) (u4 := .int .i64 (hi + P - 1)) (u5 := .int .i64 1) KY3 (by simp; omega)) BX (s := 0) (by omega)
  rw [hy4]
  clear hy4
  refine gro.anyG_one 20 (by kernel_rfl) rfl ?_
  intro y5 hz5 K' hK'
  have KY5 := KY4.below hz5
  have BY5 := BY4.trans (hz5.mono BY4.size)
  go_simp
  refine hK' _ _ ⟨BY5, ?_⟩
  clear hK' K'
  refine gro.anyG_done (by kernel_rfl) ?_
  intro y6 hz6
  have KY6 := KY5.below hz6
  have BY6 := BY5.trans (hz6.mono BY5.size)
  replace BB := Lib.hid ((BB.out.drew).trans (BY6.mono BB.out.size))
  replace KK := Lib.hid KY6
  clear R hcx KY1 BY1 KY2 BY2 KY3 BY3 BX KY4 BY4 KY5 BY5 KY6 BY6 hz1 hz3 hz5 hz6 hl hm sY2 sY4 HW HX
  have R := KK.out.rules
  simp only [Rules] at R
  go_wp2
  refine bodyPost_ret (v := Value.tuple #[.agg (bnd6 lo (hi + P - 1)), .int .i64 0]) (by simp [results, Tryz.results18, go_sem, R, bnd6]) rfl ⟨rfl, ?_⟩
  exact Below.set6 BB.out (Nat.le_refl _) _ _ _ _ _ _
end Go.Proofs.YtjapjfcennemeaaGreat.rnk
