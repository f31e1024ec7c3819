/- The walk of the law BlocksPlain: it returns true and leaves what was there. -/
import Derived.Test.YtjapjfcennemeaaRows
import Derived.Test.YtjapjfcennemeaaMgTri
import Derived.Test.YtjapjfcennemeaaMgBLaw
import Derived.Test.YtjapjfcennemeaaBPlnL
import Derived.Test.YtjapjfcennemeaaItems
import Derived.Test.YtjapjfcennemeaaItemsP
import Derived.Test.YtjapjfcennemeaaMade
import Derived.Test.YtjapjfcennemeaaOpenK
import Derived.WalkKit
import Derived.ProofKit
import Derived.OpenShut
import Derived.ShutString
namespace Go.Proofs.Ytjapjfcennemeaa.blocksPlain
open Go.ChangeShapes Go.WideShapes Go.ChangeAt Go.RowKit
open Go.ChangeMaps (open_string shut_string)
set_option linter.unusedVariables false

set_option maxHeartbeats 4000000 in
set_option maxRecDepth 100000 in
theorem walk (A0 : Option Addr) (n0 c0 : Nat) (z0 : List (Int × Int)) (a1 : Int) (a2 : Int) (w : World) (iw0 : mem.PRead w w.heap.size A0 n0 z0) (e0 : n0 ≤ c0) (m0 : c0 ≤ maxLen) (r0 : ∀ p ∈ z0, opn.Rng p.1 ∧ opn.Rng p.2) (iw1 : opn.Rng a1) (iw2 : opn.Rng a2) :
    Calls Try.prog 5 #[.slice A0 n0 c0, .int .i64 a1, .int .i64 a2] w fun e w' => e = .returned (.bool true) ∧ Below w.heap.size w w' := by
  have HZ := Lib.hid iw0
  have M1 := Lib.hid (fun W => made.Int_any a1 4 W iw1 (by omega) (by omega))
  have M2 := Lib.hid (fun W => made.Int_any a2 30 W iw2 (by omega) (by omega))
  have b10 : 0 ≤ a1 % 4 := Int.emod_nonneg _ (by omega)
  have b11 : a1 % 4 < 4 := Int.emod_lt_of_pos _ (by omega)
  have b20 : 0 ≤ a2 % 30 := Int.emod_nonneg _ (by omega)
  have b21 : a2 % 30 < 30 := Int.emod_lt_of_pos _ (by omega)
  clear iw1 iw2 iw0
  generalize a1 % 4 = x1 at *
  generalize a2 % 30 = x2 at *
  obtain ⟨k, hk⟩ : ∃ k : Int, 1 + x1 = k := ⟨_, rfl⟩
  obtain ⟨b, hb⟩ : ∃ b : Int, 1 + x2 = b := ⟨_, rfl⟩
  have hk1 : 1 ≤ k := by omega
  have hk2 : k ≤ 4 := by omega
  have hb1 : 1 ≤ b := by omega
  have hb2 : b ≤ 30 := by omega
  have hsk : IntKind.i64.wrap (1 + x1) = k := by rw [hk]; exact IntWalk.i64_in _ (by omega)
  have hsb : IntKind.i64.wrap (1 + x2) = b := by rw [hb]; exact IntWalk.i64_in _ (by omega)
  clear hk hb b10 b11 b20 b21
  have H3 := Lib.hid (fun W (hb : Below w.heap.size w W) => made.Items_any A0 n0 c0 z0 20 80 W ((HZ.out.below hb).more hb.size) r0 e0 m0 (by omega) (by omega))
  have H9 := Lib.hid (fun W => blk.awake22_any W)
  clear r0 e0 m0
  go_enter Try.func5, Try.ntmps5
  go_wp2_with fail
  (with_reducible refine (M1.out _).mono ?_)
  rintro e w1 ⟨rfl, rfl⟩
  go_wp2_with fail
  (with_reducible refine (M2.out _).mono ?_)
  rintro e w1 ⟨rfl, rfl⟩
  go_wp2_with fail
  clear M1 M2
  (refine (H3.out _ (Below.refl _ _)).mono ?_)
  rintro e w2 ⟨u, its, rfl, hown, hlm, hok, hbl⟩
  have HA := Lib.hid (made.ItOk.asc hok (by omega) (by omega))
  obtain ⟨A1, c1, rfl, i1, i2, i3⟩ := mem.own_form hown
  obtain ⟨m, hm⟩ : ∃ m, its.length = m := ⟨_, rfl⟩
  rw [hm] at hlm i1 i3
  have HI := Lib.hid i3
  have HL : Hid (its.length = m) := hm
  have BB := Lib.hid hbl
  clear hown hok hbl i3 H3 HZ
  simp only [hm]
  have i2' : c1 ≤ 9223372036854775807 := i2
  clear hm
  go_wp2_with fail
  go_loopg [7, 8, 20] m (fun kx s7 s8 s20 wr => ∃ (i : Nat) (A5 : Option Addr) (m5 c5 : Nat) (ys : List mem.BlkM) (A6 : Option Addr) (m6 c6 : Nat), s20 = .int .i64 i ∧ s7 = .slice A5 m5 c5 ∧ s8 = .slice A6 m6 c6 ∧ i ≤ m ∧ m - i ≤ kx ∧ m5 ≤ c5 ∧ c5 ≤ 9223372036854775807 ∧ m6 ≤ c6 ∧ c6 ≤ 9223372036854775807 ∧ Hid (mem.BRead wr wr.heap.size A5 m5 ys) ∧ Hid (mem.PRead wr wr.heap.size A6 m6 (rnk.plainK (ys.map blk.bkey))) ∧ Hid (rnk.validK (ys.map blk.bkey) k b = true) ∧ Hid (rnk.totalK (ys.map blk.bkey) = i) ∧ Hid (i < m → rnk.lastK (ys.map blk.bkey) ≤ (buk.at_ its i).1) ∧ Hid (mem.PRead wr wr.heap.size A1 m its) ∧ Hid (Below w.heap.size w wr))
  case atStart => exact ⟨0, none, 0, 0, [], none, 0, 0, by first | rfl | go_num, rfl, rfl, Nat.zero_le _, by omega, Nat.le_refl _, by omega, Nat.le_refl _, by omega, ⟨mem.Reads.none_, fun b hb => by cases hb⟩, mem.PRead.nil_, rnk.validK_nil (by omega) (by omega), by rw [Hid]; rfl, fun h => by have := (HA.out 0 (by rw [HL.out]; exact h)).1.1; unfold rnk.lastK; simpa using this, HI, BB⟩
  case round =>
    clear HI BB
    obtain ⟨i, A5, m5, c5, ys, A6, m6, c6, rfl, rfl, rfl, hi, hkx, hc5, hm5, hc6, hm6, HY, HP, HV, HT, HN, HI, BB⟩ := hrel
    by_cases hlt : i < m
    case neg =>
      go_wp2_with fail
      (refine (H9.out _).mono ?_)
      rintro e w9 ⟨rfl, hb9⟩
      go_wp2
      go_ret
      exact ⟨rfl, BB.out.trans (hb9.mono BB.out.size)⟩
    have hly := HY.out.len
    have hlen := rnk.len_total HV.out
    rw [HT.out, List.length_map] at hlen
    obtain ⟨ad, rfl, hbl, hc1, hc2⟩ := mem.PRead.at_ HI.out hlt
    change wr.cell? (ad.add (i * 2)) = some (.int .i64 (buk.at_ its i).1) at hc1
    change wr.cell? ⟨(ad.add (i * 2)).block, (ad.add (i * 2)).off + 1, none⟩ = some (.int .i64 (buk.at_ its i).2) at hc2
    obtain ⟨⟨ha1, ha2⟩, ⟨hv1, hv2⟩, HX⟩ := HA.out i (by rw [HL.out]; exact hlt)
    have HT1 := HN.out hlt
    have HN2 : Hid (i + 1 < m → (buk.at_ its i).1 ≤ (buk.at_ its (i + 1)).1) := fun h => HX (by rw [HL.out]; exact h)
    clear HX HN
    generalize (buk.at_ its i).1 = T at *
    generalize (buk.at_ its i).2 = V at *
    have hmay : rnk.mayK (ys.map blk.bkey) k b T V = true := rnk.mayK_iff2.2 ⟨HV.out, by omega, HT1, by omega, by have := HT.out; omega⟩
    obtain ⟨g1, g2, g3, _⟩ := rnk.insKC_ok hmay
    have C1 := Lib.hid (fun W (h : mem.BRead W W.heap.size A5 m5 ys) => blk.InsertB_any A5 m5 c5 ys k b T V W h (by omega) (fun hv => by have := rnk.ents_valid hv; rw [List.length_map] at this; have h2 : ys.length * (b + 1).toNat ≤ 80 * 31 := Nat.mul_le_mul (by omega) (by omega); omega))
    have C2 := Lib.hid (fun W (h : mem.PRead W W.heap.size A6 m6 (rnk.plainK (ys.map blk.bkey))) => lst.InsertRef_any A6 m6 c6 (rnk.plainK (ys.map blk.bkey)) k T W h (by have := mem.PRead.len h; rw [rnk.plainK_length, List.length_map] at this; omega))
    rw [rnk.insK_t hmay] at C1
    rw [rnk.insI_plain hmay] at C2
    have G1 := Lib.hid g1
    have G2 := Lib.hid (g2.trans (by rw [HT.out]))
    have G3 := Lib.hid g3
    have GL := Lib.hid (rnk.len_total g1)
    clear g1 g2 g3 hmay HV HT
    generalize rnk.insKC (ys.map blk.bkey) k.toNat b T V = ks at *
    have hmes : m - (i + 1) < m - i := by omega
    obtain ⟨W1, hW1⟩ : ∃ W1, wr.alloc (.cells #[Value.int IntKind.i64 T, Value.int IntKind.i64 V] 37) = W1 := ⟨_, rfl⟩
    have hbA : Below wr.heap.size wr W1 := by rw [← hW1]; exact (Below.refl _ _).alloc (Nat.le_refl _) _
    have HY1 := Lib.hid ((HY.out.below hbA).more hbA.size)
    have HP1 := Lib.hid ((mem.Reads.below HP.out hbA).more hbA.size)
    have HI1 := Lib.hid ((mem.Reads.below HI.out hbA).more hbA.size)
    have BB1 := Lib.hid (BB.out.trans (hbA.mono BB.out.size))
    have KX : gro.Bx W1 [(wr.heap.size, 37, #[Value.int IntKind.i64 T, Value.int IntKind.i64 V])] := by rw [← hW1]; exact (gro.Bx.nil_ (W := wr)).new rfl
    have KK := Lib.hid KX
    clear HY HP HI BB hbA KX
    have R1 := KK.out.rules
    simp only [gro.Rules] at R1
    go_wp2_with fail
    clear hW1 hc1 hc2 R1
    (refine (C1.out _ HY1.out).mono ?_)
    rintro e w3 ⟨A7, m7, c7, y7, rfl, q1, q2, r1, k1, hb3, _⟩
    have hl7 := r1.len
    have hk7 : y7.length = ks.length := by rw [← k1, List.length_map]
    replace KK := Lib.hid (KK.out.below hb3)
    have R3 := KK.out.rules
    simp only [gro.Rules] at R3
    have HP3 := Lib.hid ((mem.Reads.below HP1.out hb3).more hb3.size)
    have HI3 := Lib.hid ((mem.Reads.below HI1.out hb3).more hb3.size)
    have BB3 := Lib.hid (BB1.out.trans (hb3.mono BB1.out.size))
    have HY3 := Lib.hid r1
    clear r1 hb3 HP1 HI1 BB1 HY1
    go_wp2_with fail
    (refine (C2.out _ HP3.out).mono ?_)
    rintro e w4 ⟨A8, m8, c8, rfl, q3, q4, r2, hb4⟩
    have HI4 := Lib.hid ((mem.Reads.below HI3.out hb4).more hb4.size)
    have BB4 := Lib.hid (BB3.out.trans (hb4.mono BB3.out.size))
    have HY4 := Lib.hid ((HY3.out.below hb4).more hb4.size)
    have HP4 := Lib.hid r2
    clear r2 hb4 HP3 HI3 BB3 HY3 R3 KK
    have hm7 : m7 ≤ 81 := by have := GL.out; have := G2.out; omega
    have C3 := Lib.hid (blk.PlainR_any A7 m7 c7 y7 w4 HY4.out (by omega))
    go_wp2_with fail
    (refine C3.out.mono ?_)
    rintro e w5 ⟨A9, m9, c9, rfl, q5, q6, r5, hb5⟩
    rw [blk.plainB_key, k1] at r5
    have hl9 := mem.PRead.len r5
    rw [rnk.plainK_length] at hl9
    have HI5 := Lib.hid ((mem.Reads.below HI4.out hb5).more hb5.size)
    have BB5 := Lib.hid (BB4.out.trans (hb5.mono BB4.out.size))
    have HY5 := Lib.hid ((HY4.out.below hb5).more hb5.size)
    have HP5 := Lib.hid ((mem.Reads.below HP4.out hb5).more hb5.size)
    have HS := Lib.hid (lst.Same_any A9 A8 m9 c9 m8 c8 (rnk.plainK ks) (rnk.plainK ks) w5 w5.heap.size r5 HP5.out (by omega))
    rw [decide_eq_true rfl] at HS
    clear r5 hb5 HI4 BB4 HY4 HP4
    go_wp2_with fail
    (refine HS.out.mono ?_)
    rintro e w6 ⟨rfl, q, rfl⟩
    have hb6 := mem.below_quiet w5.heap.size w5 q
    have HI6 := Lib.hid ((mem.Reads.below HI5.out hb6).more hb6.size)
    have BB6 := Lib.hid (BB5.out.trans (hb6.mono BB5.out.size))
    have HY6 := Lib.hid ((HY5.out.below hb6).more hb6.size)
    have HP6 := Lib.hid ((mem.Reads.below HP5.out hb6).more hb6.size)
    clear HI5 BB5 HY5 HP5 hb6 HS
    generalize w5.drewN q = w7 at *
    go_wp2
    go_roundg (m - (i + 1))
    case measure => exact Nat.lt_of_lt_of_le hmes hkx
    case rel => exact ⟨i + 1, A7, m7, c7, y7, A8, m8, c8, by go_num, rfl, rfl, hlt, Nat.le_refl _, q1, q2, q3, q4, HY6, by rw [k1]; exact HP6, by rw [k1]; exact G1, by rw [k1]; exact G2, fun h => by rw [k1, G3.out]; exact HN2.out h, HI6, BB6⟩
end Go.Proofs.Ytjapjfcennemeaa.blocksPlain
