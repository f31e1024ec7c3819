/- Contract of the reference's Insert for blocks. -/
import Derived.Test.YtjapjfcennemeaaBIns
import Derived.Test.YtjapjfcennemeaaBValR
import Derived.Test.YtjapjfcennemeaaMgRMrR
import Derived.Test.YtjapjfcennemeaaMgRPruR
import Derived.Test.YtjapjfcennemeaaMgIns
import Derived.Test.YtjapjfcennemeaaPut
import Derived.Test.YtjapjfcennemeaaMgRBox
import Derived.Deep.DeepCutAuto
import Derived.Deep.CutBlock
import Derived.StillTailTactics
namespace Go.Proofs.Ytjapjfcennemeaa.blk
open Go.RowKit Go.Proofs.Ytjapjfcennemeaa.mem Go.Proofs.Ytjapjfcennemeaa.rnk Go.Proofs.Ytjapjfcennemeaa.gro Go.Proofs.Ytjapjfcennemeaa.buk
set_option linter.unusedVariables false
set_option linter.unusedSimpArgs false
set_option pp.maxSteps 200000
/-- The entries of all blocks, wherever they lie. -/
def EntR (W : World) (ys : List BlkM) : Prop := ∀ y ∈ ys, ERead W W.heap.size y.adr y.en y.es ∧ y.en ≤ y.ec ∧ y.ec ≤ maxLen
theorem EntR.below {W w' : World} {ys : List BlkM} (h : EntR W ys) (hb : Below W.heap.size W w') : EntR w' ys := fun y hy => by
  obtain ⟨h1, h2, h3⟩ := h y hy
  exact ⟨(ERead.below h1 hb).more hb.size, h2, h3⟩
theorem cntK_take {ks : List K5} {i : Nat} (h : i < ks.length) (l : Nat) : cnt ((plainK ks).take (i + 1)) l = cnt ((plainK ks).take i) l + if (atK ks i).2.2.1 = (l : Int) then 1 else 0 := by
  have := cnt_take (xs := plainK ks) (k := i) (by rw [plainK_length]; exact h) l
  rw [at_plainK] at this
  rw [this]
theorem firstK (ks : List K5) (l i : Nat) : firstTo (plainK ks) l (i + 1) = if firstTo (plainK ks) l i < 0 ∧ (atK ks i).2.2.1 = (l : Int) then (i : Int) else firstTo (plainK ks) l i := by
  have : firstTo (plainK ks) l (i + 1) = if firstTo (plainK ks) l i < 0 ∧ (at_ (plainK ks) i).2 = l then (i : Int) else firstTo (plainK ks) l i := rfl
  rw [this, at_plainK]
set_option maxHeartbeats 8000000 in
set_option maxRecDepth 100000 in
theorem InsertBR_no (A : Option Addr) (n c : Nat) (xs : List BlkM) (k b t v : Int) (w : World) (h1 : BRead w w.heap.size A n xs) (hs : n ≤ 64000) (hm : ¬ mayK (xs.map bkey) k b t v = true) : Calls Try.prog 23 #[.slice A n c, .int .i64 k, .int .i64 b, .int .i64 t, .int .i64 v] w fun e w' => e = .returned (.slice none 0 0) ∧ Below w.heap.size w w' := by
  have HV := Lib.hid (ValidBR_any A n c xs k b w h1 (by omega))
  have HT := Lib.hid (fun W (hb : Below w.heap.size w W) => TotalBR_any A n c xs W ((h1.below hb).more hb.size) (by omega))
  have HK := Lib.hid (fun W => clk.Tick_any t W)
  have HU := Lib.hid (fun W => Value_any v W)
  rw [mayK_iff] at hm
  rcases Bool.eq_false_or_eq_true (validK (xs.map bkey) k b) with hv | hv
  case inr =>
    rw [hv] at HV
    clear hv hm HT h1 HK HU
    go_enter Try.func23, Try.ntmps23
    go_wp2_with fail
    refine HV.out.mono ?_
    rintro e w1 ⟨rfl, hb1⟩
    have HB1 := Lib.hid hb1
    clear hb1
    go_wp2
    go_ret
    exact ⟨rfl, HB1.out⟩
  rw [hv] at HV
  have hno : t < 0 ∨ 16777216 < t ∨ t < lastK (xs.map bkey) ∨ v < -4096 ∨ 4096 < v ∨ 1073741824 ≤ (totalK (xs.map bkey) : Int) := by
    by_cases h : t < 0 ∨ 16777216 < t ∨ t < lastK (xs.map bkey) ∨ v < -4096 ∨ 4096 < v ∨ 1073741824 ≤ (totalK (xs.map bkey) : Int)
    · exact h
    · exact absurd ⟨hv, by omega, by omega, by omega, by omega⟩ hm
  clear hm hv
  have htt : (0 : Int) ≤ (totalK (xs.map bkey) : Int) := Int.natCast_nonneg _
  have HL := Lib.hid h1.len
  by_cases htk : 0 ≤ t ∧ t ≤ 16777216
  case neg =>
    rw [clk.tickB_iff0.2 htk] at HK
    clear hno HT h1 HU
    go_enter Try.func23, Try.ntmps23
    go_wp2_with fail
    refine HV.out.mono ?_
    rintro e w1 ⟨rfl, hb1⟩
    have HB1 := Lib.hid hb1
    clear hb1
    go_wp2_with (go_at_call 79; refine (HK.out _).mono ?_; rintro e w2 ⟨rfl, rfl⟩)
    go_ret
    exact ⟨rfl, HB1.out⟩
  rw [clk.tickB_iff.2 htk] at HK
  have hvb : Hid (valB v = decide (-4096 ≤ v ∧ v ≤ 4096)) := rfl
  by_cases h0 : 0 < n
  case pos =>
    obtain ⟨ad, x, rfl, hbl, hx, hc, _⟩ := BRead.at_ h1 (show n - 1 < n by omega)
    rw [lastK_last HL.out h0 hx] at hno
    have HC := Lib.hid (fun W (hb : Below w.heap.size w W) => (hb.cell (p := ad.add ((n - 1) * 5)) (by rw [block_of_add]; exact hbl)).trans hc)
    clear hx hc h1
    generalize x.t = z at *
    generalize ((totalK (xs.map bkey) : Nat) : Int) = tt at *
    have s1 : IntKind.i64.wrap ((n : Int) - 1) = (n : Int) - 1 := IntWalk.i64_in _ (by omega)
    have s2 : ((n : Int) - 1).toNat = n - 1 := by omega
    by_cases hvv : -4096 ≤ v ∧ v ≤ 4096
    · --L p1
      rw [valB_t hvv] at HU
      clear hvb
      go_enter Try.func23, Try.ntmps23
      go_wp2_with fail
      refine HV.out.mono ?_
      rintro e w1 ⟨rfl, hb1⟩
      have HB1 := Lib.hid hb1
      have hc := HC.out _ hb1
      clear hb1 HV
      go_upto_region 3 with (first | (go_at_call 79; refine (HK.out _).mono ?_; rintro e w2 ⟨rfl, rfl⟩) | (go_at_call 72; refine (HU.out _).mono ?_; rintro e w2 ⟨rfl, rfl⟩) | (go_at_call 20; refine (HT.out _ HB1.out).mono ?_; rintro e w3 ⟨rfl, hb3⟩; have HB3 := Lib.hid (HB1.out.trans (hb3.mono HB1.out.size)); clear hb3))
      all_goals first
        | (exfalso; omega)
        | (go_ret; first | exact ⟨rfl, HB3.out⟩ | exact ⟨rfl, HB1.out⟩)
    · --L p2
      rw [valB_f hvv] at HU
      clear hvb
      go_enter Try.func23, Try.ntmps23
      go_wp2_with fail
      refine HV.out.mono ?_
      rintro e w1 ⟨rfl, hb1⟩
      have HB1 := Lib.hid hb1
      have hc := HC.out _ hb1
      clear hb1 HV
      go_upto_region 3 with (first | (go_at_call 79; refine (HK.out _).mono ?_; rintro e w2 ⟨rfl, rfl⟩) | (go_at_call 72; refine (HU.out _).mono ?_; rintro e w2 ⟨rfl, rfl⟩) | (go_at_call 20; refine (HT.out _ HB1.out).mono ?_; rintro e w3 ⟨rfl, hb3⟩; have HB3 := Lib.hid (HB1.out.trans (hb3.mono HB1.out.size)); clear hb3))
      all_goals first
        | (exfalso; omega)
        | (go_ret; first | exact ⟨rfl, HB3.out⟩ | exact ⟨rfl, HB1.out⟩)
  obtain rfl : n = 0 := by omega
  rw [lastK_nil HL.out] at hno
  generalize ((totalK (xs.map bkey) : Nat) : Int) = tt at *
  by_cases hvv : -4096 ≤ v ∧ v ≤ 4096
  · --L z1
    rw [valB_t hvv] at HU
    clear hvb
    go_enter Try.func23, Try.ntmps23
    go_wp2_with fail
    refine HV.out.mono ?_
    rintro e w1 ⟨rfl, hb1⟩
    have HB1 := Lib.hid hb1
    clear hb1 HV
    go_upto_region 3 with (first | (go_at_call 79; refine (HK.out _).mono ?_; rintro e w2 ⟨rfl, rfl⟩) | (go_at_call 72; refine (HU.out _).mono ?_; rintro e w2 ⟨rfl, rfl⟩) | (go_at_call 20; refine (HT.out _ HB1.out).mono ?_; rintro e w3 ⟨rfl, hb3⟩; have HB3 := Lib.hid (HB1.out.trans (hb3.mono HB1.out.size)); clear hb3))
    all_goals first
      | (exfalso; omega)
      | (go_ret; first | exact ⟨rfl, HB3.out⟩ | exact ⟨rfl, HB1.out⟩)
  · --L z2
    rw [valB_f hvv] at HU
    clear hvb
    go_enter Try.func23, Try.ntmps23
    go_wp2_with fail
    refine HV.out.mono ?_
    rintro e w1 ⟨rfl, hb1⟩
    have HB1 := Lib.hid hb1
    clear hb1 HV
    go_upto_region 3 with (first | (go_at_call 79; refine (HK.out _).mono ?_; rintro e w2 ⟨rfl, rfl⟩) | (go_at_call 72; refine (HU.out _).mono ?_; rintro e w2 ⟨rfl, rfl⟩) | (go_at_call 20; refine (HT.out _ HB1.out).mono ?_; rintro e w3 ⟨rfl, hb3⟩; have HB3 := Lib.hid (HB1.out.trans (hb3.mono HB1.out.size)); clear hb3))
    all_goals first
      | (exfalso; omega)
      | (go_ret; first | exact ⟨rfl, HB3.out⟩ | exact ⟨rfl, HB1.out⟩)
set_option maxHeartbeats 16000000 in
set_option maxRecDepth 100000 in
theorem InsertBR_yes (A : Option Addr) (n c : Nat) (xs : List BlkM) (k : Nat) (b t v : Int) (w : World) (h1 : BRead w w.heap.size A n xs) (hs : n ≤ 64000) (hent : entsK (xs.map bkey) ≤ 4000000) (hm : mayK (xs.map bkey) k b t v = true) : Calls Try.prog 23 #[.slice A n c, .int .i64 k, .int .i64 b, .int .i64 t, .int .i64 v] w (NewBK (putKC (xs.map bkey) k b t v) w) := by
  have HV := Lib.hid (ValidBR_any A n c xs k b w h1 (by omega))
  have HT := Lib.hid (fun W (hb : Below w.heap.size w W) => TotalBR_any A n c xs W ((h1.below hb).more hb.size) (by omega))
  have HK := Lib.hid (fun W => clk.Tick_any t W)
  have HU := Lib.hid (fun W => Value_any v W)
  obtain ⟨hv, ht, hlast, hvv, htot⟩ := mayK_iff.1 hm
  rw [hv] at HV
  rw [clk.tickB_iff.2 ht] at HK
  rw [valB_t hvv] at HU
  have hk := (validB_iff.1 (validK_iff.1 hv).2.1).1
  have hk1 : 1 ≤ k := by omega
  have hk2 : k ≤ 128 := by omega
  have htot2 : ¬ 1073741824 ≤ (totalK (xs.map bkey) : Int) := by omega
  have H1 := Lib.hid h1
  have HL := Lib.hid h1.len
  have HEn0 := Lib.hid hent
  clear hv hk htot hm hent
  generalize ((totalK (xs.map bkey) : Nat) : Int) = tt at *
  obtain ⟨i0, hi0, hz0, hz1, hz2⟩ := info_parts block_info
  have HI := Lib.hid hi0
  have HZ0 := Lib.hid hz0
  have HZ1 := Lib.hid hz1
  have HZ2 := Lib.hid hz2
  clear hi0 hz0 hz1 hz2
  go_enter Try.func23, Try.ntmps23
  go_upto_region 1 with fail
  go_cut [57] (fun s57 wx => s57 = .bool false ∧ Hid (Below w.heap.size w wx))
  case first =>
    by_cases h0 : 0 < n
    case pos =>
      obtain ⟨ad, x, rfl, hbl, hx, hc, _⟩ := BRead.at_ h1 (show n - 1 < n by omega)
      rw [lastK_last HL.out h0 hx] at hlast
      have HC := Lib.hid (fun W (hb : Below w.heap.size w W) => (hb.cell (p := ad.add ((n - 1) * 5)) (by rw [block_of_add]; exact hbl)).trans hc)
      clear hx hc h1
      generalize x.t = z at *
      have s1 : IntKind.i64.wrap ((n : Int) - 1) = (n : Int) - 1 := IntWalk.i64_in _ (by omega)
      have s2 : ((n : Int) - 1).toNat = n - 1 := by omega
      go_wp2_with fail
      refine HV.out.mono ?_
      rintro e w1 ⟨rfl, hb1⟩
      have HB1 := Lib.hid hb1
      have hc := HC.out _ hb1
      clear hb1 HV
      go_wp2_with (first | (go_at_call 79; refine (HK.out _).mono ?_; rintro e w2 ⟨rfl, rfl⟩) | (go_at_call 72; refine (HU.out _).mono ?_; rintro e w2 ⟨rfl, rfl⟩) | (go_at_call 20; refine (HT.out _ HB1.out).mono ?_; rintro e w3 ⟨rfl, hb3⟩; have HB3 := Lib.hid (HB1.out.trans (hb3.mono HB1.out.size)); clear hb3))
      go_meet
      exact ⟨congrArg Value.bool (by first | rfl | (simp; omega)), HB3⟩
    obtain rfl : n = 0 := by omega
    clear h1
    go_wp2_with fail
    refine HV.out.mono ?_
    rintro e w1 ⟨rfl, hb1⟩
    have HB1 := Lib.hid hb1
    clear hb1 HV
    go_wp2_with (first | (go_at_call 79; refine (HK.out _).mono ?_; rintro e w2 ⟨rfl, rfl⟩) | (go_at_call 72; refine (HU.out _).mono ?_; rintro e w2 ⟨rfl, rfl⟩) | (go_at_call 20; refine (HT.out _ HB1.out).mono ?_; rintro e w3 ⟨rfl, hb3⟩; have HB3 := Lib.hid (HB1.out.trans (hb3.mono HB1.out.size)); clear hb3))
    go_meet
    exact ⟨congrArg Value.bool (by first | rfl | (simp; omega)), HB3⟩
  case rest =>
  obtain ⟨rfl, HB⟩ := hcut
  clear HV HT htot2 hlast h1 ht hvv HK HU
  have hwb := HB.out.size
  go_wp2_with (first | (at_builtin; refine wpList_append_any _ rfl (.tmp 58) (.tmp 59) 22 rfl wc.heap.size 64 i0 (.agg #[.int .i64 0, .int .i64 0, .int .i64 0, .int .i64 0, .slice none 0 0]) 5 56 Try.underlying22 HI.out HZ0.out HZ1.out HZ2.out rfl (by omega) (.slice (some ⟨wc.heap.size, 0, none⟩) 0 0) 0 [] rfl (own_empty wc 64) w.heap.size A n c (bc xs) rfl ((H1.out.1.below HB.out).alloc HB.out.size _) (bc_oneCell xs) (by unfold maxLen; omega) (by omega) (by simp) ?_; intro v4 w4 hown4 hg4 hat4; simp only [Nat.zero_add, List.nil_append] at hown4; obtain ⟨A4, c4, rfl, q1, q2, q3⟩ := own_form hown4; have HB4 : Hid (Below wc.heap.size wc w4) := ((Below.refl _ _).alloc (Nat.le_refl _) _).grown hg4 (by simp) (by simp [Value.ownBlock]); have HO4 := Lib.hid hown4; clear hown4 hg4 hat4 q3) | (go_at_call 80; refine (singleR_any v _).mono ?_; rintro e w5 ⟨A5, m5, c5, rfl, r1, r2, r3, hb5, hfr5⟩; obtain rfl : 1 = m5 := (by have := r3.len; simpa using this); have HB5 := Lib.hid hb5; have HO5 := Lib.hid (own_keep HO4.out hb5); have HE5 := Lib.hid r3; have HF5 := Lib.hid hfr5; clear r3 hb5 hfr5) | (at_builtin; refine wpList_append_any _ rfl (.tmp 60) (.tmp 66) 22 rfl wc.heap.size 64 i0 (.agg #[.int .i64 0, .int .i64 0, .int .i64 0, .int .i64 0, .slice none 0 0]) 5 56 Try.underlying22 HI.out HZ0.out HZ1.out HZ2.out rfl (by omega) (.slice A4 n c4) n (bc xs) rfl (own_alloc HO5.out _) _ _ 1 1 _ rfl (reads_blk (blk_new2 rfl) rfl) (by simp [Value.oneCell']) (by unfold maxLen; omega) (by omega) (by have h4 := HB4.out.size; have h5 := HB5.out.size; simp; omega) ?_; intro v6 w6 hown6 hg6 hat6; obtain ⟨g1, c1, rfl, p1, p2, p3, p4⟩ := own_form2 hown6 (by omega); have HO6 := Lib.hid hown6; have HG6 := Lib.hid hg6; have HA6 := Lib.hid hat6; clear hown6 hg6 hat6))
  have h4 := HB4.out.size
  have h5 := HB5.out.size
  have BB5 := HB.out.trans ((HB4.out.trans (HB5.out.mono HB4.out.size)).mono HB.out.size)
  have HB6 := Lib.hid (below_own HG6.out (own_alloc HO5.out _) (BB5.alloc BB5.size _) HB.out.size (by simp; omega))
  have hown4lt := fun k h => (World.ownsRow.lt HO4.out k h)
  have HEn6 : Hid (EntR w6 (xs ++ [⟨t, v, 0, 1, A5, 1, c5, [(v, 1, 1)]⟩])) := by
    intro y hy
    rcases List.mem_append.1 hy with hy | hy
    · obtain ⟨a1, a2, a3⟩ := H1.out.2 y hy
      exact ⟨(ERead.below a1 HB6.out).more HB6.out.size, a2, a3⟩
    · obtain rfl : y = ⟨t, v, 0, 1, A5, 1, c5, [(v, 1, 1)]⟩ := by simpa using hy
      refine ⟨Reads.appG (W := w5.alloc _) ((Reads.below HE5.out ((Below.refl _ _).alloc (Nat.le_refl _) _)).more (by simp)) HG6.out (fun h0 ad h e => ?_), r1, r2⟩
      have f1 := HF5.out ad h
      have f2 := (hown4lt _ e.symm).2
      omega
  have HK0 : Hid (w6.ownsRow w.heap.size 64 5 (.slice (some ⟨g1, 0, none⟩) (n + 1) c1) (n + 1) (bc (xs ++ [⟨t, v, 0, 1, A5, 1, c5, [(v, 1, 1)]⟩]))) := by
    have := HO6.out; rw [Hid, bc_append]; exact own_mono this hwb
  have HEK : Hid (entsK ((xs ++ [(⟨t, v, 0, 1, A5, 1, c5, [(v, 1, 1)]⟩ : BlkM)]).map bkey) ≤ 4000001) := by
    have := HEn0.out; unfold entsK at this ⊢; rw [Hid]; simp [bkey]; simp at this; omega
  have HCs : Hid (putRK k b 31 ((xs ++ [(⟨t, v, 0, 1, A5, 1, c5, [(v, 1, 1)]⟩ : BlkM)]).map bkey) 0 = putKC (xs.map bkey) k b t v) := by
    rw [Hid, putKC, List.map_append]; rfl
  have HLn : Hid ((xs ++ [(⟨t, v, 0, 1, A5, 1, c5, [(v, 1, 1)]⟩ : BlkM)]).length = n + 1) := by rw [Hid]; simp; exact HL.out
  generalize xs ++ [(⟨t, v, 0, 1, A5, 1, c5, [(v, 1, 1)]⟩ : BlkM)] = ys0 at *
  have hgb1 : w.heap.size ≤ g1 := by omega
  clear HO6 HG6 HA6 HO4 HO5 HE5 HF5 HB4 HB5 BB5 hown4lt h4 h5 p3 p4
  go_loopg [11, 12] 31 (fun kx s11 s12 wr => ∃ (ys : List BlkM) (m l f g' c' : Nat), s11 = .slice (some ⟨g', 0, none⟩) m c' ∧ s12 = .int .i64 l ∧ 1 ≤ m ∧ m ≤ n + 1 ∧ m ≤ c' ∧ c' ≤ 9223372036854775807 ∧ l + f = 31 ∧ f ≤ kx ∧ w.heap.size ≤ g' ∧ Hid (ys.length = m) ∧ Hid (wr.ownsRow w.heap.size 64 5 (.slice (some ⟨g', 0, none⟩) m c') m (bc ys)) ∧ Hid (EntR wr ys) ∧ Hid (Below w.heap.size w wr) ∧ Hid (entsK (ys.map bkey) ≤ 4000001) ∧ Hid (putRK k b f (ys.map bkey) l = putKC (xs.map bkey) k b t v))
  case atStart => exact ⟨ys0, n + 1, 0, 31, g1, c1, rfl, rfl, by omega, Nat.le_refl _, p1, p2, by omega, Nat.le_refl _, hgb1, HLn, HK0, HEn6, HB6, HEK, HCs⟩
  case round =>
    clear HK0 HEn6 HB6 HEK HCs HLn HL HEn0 H1 HB p1 p2 r1 r2 q1 q2 hgb1
    obtain ⟨ys, m, l, f, g', c', rfl, rfl, hm1, hmn, hmc, hcm, hlf, hfk, hgb, HLy, HO, HEn, BB, HEK, HE⟩ := hrel
    by_cases hl30 : l ≤ 30
    case neg =>
      obtain rfl : l = 31 := by omega
      obtain rfl : f = 0 := by omega
      go_wp2
      go_ret
      exact ⟨_, m, c', ys, rfl, hmc, hcm, ⟨Reads.of_own HO.out, fun y hy => HEn.out y hy⟩, HE.out, BB.out, fun ad h => by injection h with h; subst h; show w.heap.size ≤ g'; omega⟩
    obtain ⟨f, rfl⟩ : ∃ f', f = f' + 1 := ⟨f - 1, by omega⟩
    have hb30 : decide ((l : Int) ≤ 30) = true := decide_eq_true (by omega)
    have s0 : IntKind.i64.wrap ((l : Int) + 1) = (l : Int) + 1 := IntWalk.i64_in _ (by omega)
    go_upto_block 2 with fail
    go_cut [13, 14] (fun s13 s14 wx => s13 = .int .i64 (firstTo (plainK (ys.map bkey)) l m) ∧ s14 = .int .i64 (cnt (plainK (ys.map bkey)) l) ∧ Hid (Below wr.heap.size wr wx))
    case first =>
      go_wp2_with fail
      go_loopg [13, 14, 74] m (fun kx s13 s14 s74 wi => ∃ i : Nat, s74 = .int .i64 i ∧ s13 = .int .i64 (firstTo (plainK (ys.map bkey)) l i) ∧ s14 = .int .i64 (cnt ((plainK (ys.map bkey)).take i) l) ∧ i ≤ m ∧ m - i ≤ kx ∧ Hid (Below wr.heap.size wr wi))
      case atStart => exact ⟨0, rfl, rfl, rfl, Nat.zero_le _, by omega, Below.refl _ _⟩
      case round =>
        obtain ⟨i, rfl, rfl, rfl, him, hik, HBi⟩ := hrel
        by_cases hlt : i < m
        case neg =>
          obtain rfl : i = m := by omega
          have hfull : (plainK (ys.map bkey)).take i = plainK (ys.map bkey) := List.take_of_length_le (by rw [plainK_length, List.length_map, HLy.out]; exact Nat.le_refl _)
          rw [hfull]
          go_wp2
          go_meet
          exact ⟨rfl, rfl, HBi⟩
        obtain ⟨x, hx, HX⟩ := own_cells HO.out hlt
        obtain ⟨f1, f2, f3, f4, f5⟩ := HX.out _ HBi.out
        have hat : (atK (ys.map bkey) i).2.2.1 = x.level := by rw [atK_key hx]
        have hcs := cntK_take (ks := ys.map bkey) (i := i) (by rw [List.length_map, HLy.out]; exact hlt) l
        have hfs := firstK (ys.map bkey) l i
        rw [hat] at hcs hfs
        have hcl := cnt_le ((plainK (ys.map bkey)).take i) l
        rw [List.length_take] at hcl
        have HCS := Lib.hid hcs
        have HFS := Lib.hid hfs
        have hws := HBi.out.size
        clear hcs hfs hat hx HX
        generalize x.t = xt at *
        generalize x.last = xl at *
        generalize x.level = lv at *
        generalize x.num = xn at *
        generalize x.adr = xa at *
        generalize x.en = xe at *
        generalize x.ec = xc at *
        generalize firstTo (plainK (ys.map bkey)) l i = fi at *
        generalize cnt ((plainK (ys.map bkey)).take i) l = ci at *
        by_cases e1 : lv = (l : Int)
        case pos =>
          have e1b : (lv == (l : Int)) = true := by simpa using e1
          have HE1 := Lib.hid e1
          clear e1
          by_cases e2 : fi < 0
          · go_wp2
            go_roundg (m - (i + 1))
            case measure => omega
            case rel => exact ⟨i + 1, by go_num, by rw [HFS.out, if_pos ⟨e2, HE1.out⟩], by rw [HCS.out, if_pos HE1.out]; go_num, by omega, by omega, HBi.out.alloc HBi.out.size _⟩
          · go_wp2
            go_roundg (m - (i + 1))
            case measure => omega
            case rel => exact ⟨i + 1, by go_num, by rw [HFS.out, if_neg (fun h => by omega)], by rw [HCS.out, if_pos HE1.out]; go_num, by omega, by omega, HBi.out.alloc HBi.out.size _⟩
        have e1b : (lv == (l : Int)) = false := by simpa using e1
        go_wp2
        go_roundg (m - (i + 1))
        case measure => omega
        case rel => exact ⟨i + 1, by go_num, by rw [HFS.out, if_neg (fun h => e1 h.2)], by rw [HCS.out, if_neg e1]; rfl, by omega, by omega, HBi.out.alloc HBi.out.size _⟩
    case rest =>
    obtain ⟨rfl, rfl, HBi⟩ := hcut
    have hpl : (plainK (ys.map bkey)).length = m := by rw [plainK_length, List.length_map, HLy.out]
    have hcl := cnt_le (plainK (ys.map bkey)) l
    rw [hpl] at hcl
    by_cases hst : cnt (plainK (ys.map bkey)) l ≤ k + 1
    case pos =>
      have HC : Hid (putKC (xs.map bkey) k b t v = ys.map bkey) := by rw [Hid, ← HE.out, putRK_stop hst]
      have hst2 : (cnt (plainK (ys.map bkey)) l : Int) ≤ k + 1 := by omega
      clear hst
      generalize cnt (plainK (ys.map bkey)) l = cc at *
      generalize firstTo (plainK (ys.map bkey)) l m = fi at *
      go_wp2
      go_ret
      exact ⟨_, m, c', ys, rfl, hmc, hcm, ⟨Reads.of_own (own_keep HO.out HBi.out), fun y hy => (EntR.below HEn.out HBi.out) y hy⟩, HC.out.symm, BB.out.trans (HBi.out.mono BB.out.size), fun ad h => by injection h with h; subst h; show w.heap.size ≤ g'; omega⟩
    have hsp := firstTo_spec (plainK (ys.map bkey)) l m (by rw [hpl]; exact Nat.le_refl _)
    rw [List.take_of_length_le (by rw [hpl]; exact Nat.le_refl _)] at hsp
    obtain ⟨bg, hb1, hb2, hb3⟩ : ∃ bg : Nat, firstTo (plainK (ys.map bkey)) l m = bg ∧ bg < m ∧ cnt (plainK (ys.map bkey)) l ≤ m - bg := by
      rcases hsp with ⟨_, h⟩ | h
      · omega
      · exact h
    have HC : Hid (putRK k b f (joinK b (ys.map bkey) bg l) (l + 1) = putKC (xs.map bkey) k b t v) := by
      have := HE.out
      rw [putRK_go hst, List.length_map, HLy.out, hb1, Int.toNat_natCast] at this
      exact this
    have hst2 : ¬ (cnt (plainK (ys.map bkey)) l : Int) ≤ k + 1 := by omega
    have hb4 : bg + 2 < m := by omega
    rw [hb1]
    clear hsp hst hb1 hb3 HE hpl
    generalize cnt (plainK (ys.map bkey)) l = cc at *
    have HOw := Lib.hid (own_keep HO.out HBi.out)
    have HEw := Lib.hid (EntR.below HEn.out HBi.out)
    have BBw := Lib.hid (BB.out.trans (HBi.out.mono BB.out.size))
    clear HO HEn BB HBi
    obtain ⟨wr, hwr⟩ : ∃ wr, wc = wr := ⟨_, rfl⟩
    rw [hwr] at HOw HEw BBw
    obtain ⟨x, hx, HX⟩ := own_cells HOw.out (show bg < m by omega)
    obtain ⟨y, hy, HY⟩ := own_cells HOw.out (show bg + 1 < m by omega)
    have HLx := Lib.hid (ents_le (List.mem_of_getElem? hx))
    have HLy2 := Lib.hid (ents_le (List.mem_of_getElem? hy))
    have HJ := Lib.hid (fun (nb : BlkM) h => joinM_key (bb := b) (l := (l : Int)) (b := nb) hx hy h)
    have HEx := Lib.hid (HEw.out x (List.mem_of_getElem? hx))
    have HEy := Lib.hid (HEw.out y (List.mem_of_getElem? hy))
    clear hx hy
    rcases x with ⟨xt, xl, xv, xn, xa, xe, xc, xes⟩
    rcases y with ⟨yt, yl, yv, yn, ya, ye, yc, yes⟩
    simp only at HX HY HLx HLy2 HEx HEy
    have hxe : xes.length = xe := HEx.out.1.len
    have hye : yes.length = ye := HEy.out.1.len
    have hxs : xe ≤ 4000001 := by have := HLx.out; have := HEK.out; omega
    have hys : ye ≤ 4000001 := by have := HLy2.out; have := HEK.out; omega
    have t1 : IntKind.i64.wrap ((bg : Int) + 1) = (bg : Int) + 1 := IntWalk.i64_in _ (by omega)
    have t2 : ((bg : Int) + 1).toNat = bg + 1 := by omega
    have t3 : (bg : Int) + 1 < m := by omega
    have t4 : 0 ≤ (bg : Int) + 1 := by omega
    have t5 : (bg : Int) < m := by omega
    rw [hwr]
    clear hwr
    go_upto_region 18 with fail
    go_cut [17, 18] (fun s17 s18 wx => ∃ p q : Nat, s17 = .pointer (some ⟨p, 0, none⟩) ∧ s18 = .pointer (some ⟨q, 0, none⟩) ∧ wr.heap.size ≤ p ∧ wr.heap.size ≤ q ∧ p ≠ q ∧ Hid (Bx wx [(q, 64, #[Value.int IntKind.i64 yt, Value.int IntKind.i64 yl, Value.int IntKind.i64 yv, Value.int IntKind.i64 yn, Value.slice ya ye yc]), (p, 64, #[Value.int IntKind.i64 xt, Value.int IntKind.i64 xl, Value.int IntKind.i64 xv, Value.int IntKind.i64 xn, Value.slice xa xe xc])]) ∧ Hid (Below wr.heap.size wr wx))
    case first =>
      (refine gro.wp_region_heldA [0, 1, 2, 3, 4, 5, 6, 7, 8] 4 12 _ (gro.lasts_below (wr).drew) (by kernel_rfl) (by kernel_rfl) (by intro _ _ _ _ _ h; exact h) (by kernel_rfl) (by kernel_rfl) (by kernel_rfl) (by kernel_rfl) (by kernel_rfl) (by decide) (Below.refl _ _) ?_; apply Exists.intro; refine ⟨fun w0 hb0 => ?_, ?_⟩; focus (replace hb0 := (Below.drew (Below.refl _ (wr))).trans hb0; have KZ := ((gro.Bx.nil_ (W := wr))).below hb0; have RZ := KZ.rules; simp only [gro.Rules] at RZ; (obtain ⟨f1, f2, f3, f4, f5⟩ := HX.out w0 hb0; obtain ⟨k1, k2, k3, k4, k5⟩ := HY.out w0 hb0); simp only [gro.pickA, List.filterMap_cons, List.filterMap_nil, List.getElem?_toArray, List.getElem?_cons_succ, List.getElem?_cons_zero]; change wpQuiet _ _ _ _ (_ :: _ :: _ :: _ :: _ :: _ :: _ :: _ :: _ ::  []) _; (repeat (go_big_quiet_step ((fail)))); exact wpQuiet_nil rfl))
      refine gro.anyM_two 9 10 (by kernel_rfl) rfl rfl ?_ ?_
      · intro y1 hz1 K' hK'
        go_simp
        refine hK' _ _ ⟨fun _ => hz1.alloc hz1.size _, ?_⟩
        clear hK' K'
        obtain ⟨p, hp⟩ : ∃ s, y1.heap.size = s := ⟨_, rfl⟩
        have hs1 := hz1.size
        have SD := hz1.alloc hz1.size (.cells #[Value.int IntKind.i64 0, Value.int IntKind.i64 0, Value.int IntKind.i64 0, Value.int IntKind.i64 0, Value.slice none 0 0] 64)
        have KY := (gro.Bx.nil_ (W := y1)).new (t := 64) (c := #[Value.int IntKind.i64 0, Value.int IntKind.i64 0, Value.int IntKind.i64 0, Value.int IntKind.i64 0, Value.slice none 0 0]) hp
        have sY : (y1.alloc (.cells #[Value.int IntKind.i64 0, Value.int IntKind.i64 0, Value.int IntKind.i64 0, Value.int IntKind.i64 0, Value.slice none 0 0] 64)).heap.size = p + 1 := by simp [hp]
        rw [hp]
        clear hz1
        generalize y1.alloc (.cells #[Value.int IntKind.i64 0, Value.int IntKind.i64 0, Value.int IntKind.i64 0, Value.int IntKind.i64 0, Value.slice none 0 0] 64) = y2 at *
        refine gro.anyM_one 10 (by kernel_rfl) rfl ?_
        intro y3 hz3 K' hK'
        replace SD := SD.trans (hz3.mono SD.size)
        replace KY := KY.below hz3
        have hs3 := hz3.size
        go_simp
        refine hK' _ _ ⟨fun _ => SD.alloc SD.size _, ?_⟩
        clear hK' K'
        obtain ⟨q, hq⟩ : ∃ s, y3.heap.size = s := ⟨_, rfl⟩
        have hab : p < q := by omega
        replace SD := SD.alloc SD.size (.cells #[Value.int IntKind.i64 0, Value.int IntKind.i64 0, Value.int IntKind.i64 0, Value.int IntKind.i64 0, Value.slice none 0 0] 64)
        replace KY := KY.new (t := 64) (c := #[Value.int IntKind.i64 0, Value.int IntKind.i64 0, Value.int IntKind.i64 0, Value.int IntKind.i64 0, Value.slice none 0 0]) hq
        have sY3 : (y3.alloc (.cells #[Value.int IntKind.i64 0, Value.int IntKind.i64 0, Value.int IntKind.i64 0, Value.int IntKind.i64 0, Value.slice none 0 0] 64)).heap.size = q + 1 := by simp [hq]
        have hpw : wr.heap.size ≤ p := by rw [← hp]; exact hs1
        have hqw : wr.heap.size ≤ q := by omega
        rw [hq]
        clear hz3
        generalize y3.alloc (.cells #[Value.int IntKind.i64 0, Value.int IntKind.i64 0, Value.int IntKind.i64 0, Value.int IntKind.i64 0, Value.slice none 0 0] 64) = y4 at *
        refine gro.anyM_one 11 (by kernel_rfl) rfl ?_
        intro y5 hz5 K' hK'
        replace SD := SD.trans (hz5.mono SD.size)
        replace KY := (KY.below hz5).perm (L' := [(p, 64, #[Value.int IntKind.i64 0, Value.int IntKind.i64 0, Value.int IntKind.i64 0, Value.int IntKind.i64 0, Value.slice none 0 0]), (q, 64, #[Value.int IntKind.i64 0, Value.int IntKind.i64 0, Value.int IntKind.i64 0, Value.int IntKind.i64 0, Value.slice none 0 0])]) (by simp)
        have RY := KY.rules
        simp only [Rules] at RY
        have hs5 := hz5.size
        go_simp
        have SD5 := ((((SD.setCell (p := ⟨p, 0, none⟩) (by show wr.heap.size ≤ p; omega) (Value.int IntKind.i64 xt)).setCell (p := ⟨p, 1, none⟩) (by show wr.heap.size ≤ p; omega) (Value.int IntKind.i64 xl)).setCell (p := ⟨p, 2, none⟩) (by show wr.heap.size ≤ p; omega) (Value.int IntKind.i64 xv)).setCell (p := ⟨p, 3, none⟩) (by show wr.heap.size ≤ p; omega) (Value.int IntKind.i64 xn)).setCell (p := ⟨p, 4, none⟩) (by show wr.heap.size ≤ p; omega) (Value.slice xa xe xc)
        refine hK' _ _ ⟨fun _ => SD5, ?_⟩
        clear hK' K' RY
        replace KY := (blk.Bx.put5 (u0 := Value.int IntKind.i64 xt) (u1 := Value.int IntKind.i64 xl) (u2 := Value.int IntKind.i64 xv) (u3 := Value.int IntKind.i64 xn) (u4 := Value.slice xa xe xc) KY (by simp; omega)).perm (L' := [(q, 64, #[Value.int IntKind.i64 0, Value.int IntKind.i64 0, Value.int IntKind.i64 0, Value.int IntKind.i64 0, Value.slice none 0 0]), (p, 64, #[Value.int IntKind.i64 xt, Value.int IntKind.i64 xl, Value.int IntKind.i64 xv, Value.int IntKind.i64 xn, Value.slice xa xe xc])]) (by simp)
        refine gro.anyM_one 12 (by kernel_rfl) rfl ?_
        intro y7 hz7 K' hK'
        replace SD := SD5.trans (hz7.mono SD5.size)
        replace KY := KY.below hz7
        have RY := KY.rules
        simp only [Rules] at RY
        go_simp
        refine hK' _ _ ⟨fun h => absurd (show true = false from h) (by decide), ?_⟩
        clear hK' K' RY SD5
        replace KY := blk.Bx.put5 (u0 := Value.int IntKind.i64 yt) (u1 := Value.int IntKind.i64 yl) (u2 := Value.int IntKind.i64 yv) (u3 := Value.int IntKind.i64 yn) (u4 := Value.slice ya ye yc) KY (by simp; omega)
        have SD7 := ((((SD.setCell (p := ⟨q, 0, none⟩) (by show wr.heap.size ≤ q; omega) (Value.int IntKind.i64 yt)).setCell (p := ⟨q, 1, none⟩) (by show wr.heap.size ≤ q; omega) (Value.int IntKind.i64 yl)).setCell (p := ⟨q, 2, none⟩) (by show wr.heap.size ≤ q; omega) (Value.int IntKind.i64 yv)).setCell (p := ⟨q, 3, none⟩) (by show wr.heap.size ≤ q; omega) (Value.int IntKind.i64 yn)).setCell (p := ⟨q, 4, none⟩) (by show wr.heap.size ≤ q; omega) (Value.slice ya ye yc)
        refine gro.anyM_done (by kernel_rfl) ?_
        intro y9 hz9
        go_wp2_with fail
        go_meet
        exact ⟨p, q, rfl, rfl, by omega, by omega, by omega, Lib.hid (KY.below hz9), Lib.hid (((Below.refl _ _).drew).trans (SD7.trans (hz9.mono SD7.size)))⟩
      · intro y1 hz1 K' hK'
        go_simp
        refine hK' _ _ ⟨fun _ => hz1.alloc hz1.size _, ?_⟩
        clear hK' K'
        obtain ⟨q, hq⟩ : ∃ s, y1.heap.size = s := ⟨_, rfl⟩
        have hs1 := hz1.size
        have SD := hz1.alloc hz1.size (.cells #[Value.int IntKind.i64 0, Value.int IntKind.i64 0, Value.int IntKind.i64 0, Value.int IntKind.i64 0, Value.slice none 0 0] 64)
        have KY := (gro.Bx.nil_ (W := y1)).new (t := 64) (c := #[Value.int IntKind.i64 0, Value.int IntKind.i64 0, Value.int IntKind.i64 0, Value.int IntKind.i64 0, Value.slice none 0 0]) hq
        have sY : (y1.alloc (.cells #[Value.int IntKind.i64 0, Value.int IntKind.i64 0, Value.int IntKind.i64 0, Value.int IntKind.i64 0, Value.slice none 0 0] 64)).heap.size = q + 1 := by simp [hq]
        rw [hq]
        clear hz1
        generalize y1.alloc (.cells #[Value.int IntKind.i64 0, Value.int IntKind.i64 0, Value.int IntKind.i64 0, Value.int IntKind.i64 0, Value.slice none 0 0] 64) = y2 at *
        refine gro.anyM_one 9 (by kernel_rfl) rfl ?_
        intro y3 hz3 K' hK'
        replace SD := SD.trans (hz3.mono SD.size)
        replace KY := KY.below hz3
        have hs3 := hz3.size
        go_simp
        refine hK' _ _ ⟨fun _ => SD.alloc SD.size _, ?_⟩
        clear hK' K'
        obtain ⟨p, hp⟩ : ∃ s, y3.heap.size = s := ⟨_, rfl⟩
        have hab : q < p := by omega
        replace SD := SD.alloc SD.size (.cells #[Value.int IntKind.i64 0, Value.int IntKind.i64 0, Value.int IntKind.i64 0, Value.int IntKind.i64 0, Value.slice none 0 0] 64)
        replace KY := KY.new (t := 64) (c := #[Value.int IntKind.i64 0, Value.int IntKind.i64 0, Value.int IntKind.i64 0, Value.int IntKind.i64 0, Value.slice none 0 0]) hp
        have sY3 : (y3.alloc (.cells #[Value.int IntKind.i64 0, Value.int IntKind.i64 0, Value.int IntKind.i64 0, Value.int IntKind.i64 0, Value.slice none 0 0] 64)).heap.size = p + 1 := by simp [hp]
        have hpw : wr.heap.size ≤ q := by rw [← hq]; exact hs1
        have hqw : wr.heap.size ≤ p := by omega
        rw [hp]
        clear hz3
        generalize y3.alloc (.cells #[Value.int IntKind.i64 0, Value.int IntKind.i64 0, Value.int IntKind.i64 0, Value.int IntKind.i64 0, Value.slice none 0 0] 64) = y4 at *
        refine gro.anyM_one 11 (by kernel_rfl) rfl ?_
        intro y5 hz5 K' hK'
        replace SD := SD.trans (hz5.mono SD.size)
        replace KY := (KY.below hz5).perm (L' := [(p, 64, #[Value.int IntKind.i64 0, Value.int IntKind.i64 0, Value.int IntKind.i64 0, Value.int IntKind.i64 0, Value.slice none 0 0]), (q, 64, #[Value.int IntKind.i64 0, Value.int IntKind.i64 0, Value.int IntKind.i64 0, Value.int IntKind.i64 0, Value.slice none 0 0])]) (by simp)
        have RY := KY.rules
        simp only [Rules] at RY
        have hs5 := hz5.size
        go_simp
        have SD5 := ((((SD.setCell (p := ⟨p, 0, none⟩) (by show wr.heap.size ≤ p; omega) (Value.int IntKind.i64 xt)).setCell (p := ⟨p, 1, none⟩) (by show wr.heap.size ≤ p; omega) (Value.int IntKind.i64 xl)).setCell (p := ⟨p, 2, none⟩) (by show wr.heap.size ≤ p; omega) (Value.int IntKind.i64 xv)).setCell (p := ⟨p, 3, none⟩) (by show wr.heap.size ≤ p; omega) (Value.int IntKind.i64 xn)).setCell (p := ⟨p, 4, none⟩) (by show wr.heap.size ≤ p; omega) (Value.slice xa xe xc)
        refine hK' _ _ ⟨fun _ => SD5, ?_⟩
        clear hK' K' RY
        replace KY := (blk.Bx.put5 (u0 := Value.int IntKind.i64 xt) (u1 := Value.int IntKind.i64 xl) (u2 := Value.int IntKind.i64 xv) (u3 := Value.int IntKind.i64 xn) (u4 := Value.slice xa xe xc) KY (by simp; omega)).perm (L' := [(q, 64, #[Value.int IntKind.i64 0, Value.int IntKind.i64 0, Value.int IntKind.i64 0, Value.int IntKind.i64 0, Value.slice none 0 0]), (p, 64, #[Value.int IntKind.i64 xt, Value.int IntKind.i64 xl, Value.int IntKind.i64 xv, Value.int IntKind.i64 xn, Value.slice xa xe xc])]) (by simp)
        refine gro.anyM_one 12 (by kernel_rfl) rfl ?_
        intro y7 hz7 K' hK'
        replace SD := SD5.trans (hz7.mono SD5.size)
        replace KY := KY.below hz7
        have RY := KY.rules
        simp only [Rules] at RY
        go_simp
        refine hK' _ _ ⟨fun h => absurd (show true = false from h) (by decide), ?_⟩
        clear hK' K' RY SD5
        replace KY := blk.Bx.put5 (u0 := Value.int IntKind.i64 yt) (u1 := Value.int IntKind.i64 yl) (u2 := Value.int IntKind.i64 yv) (u3 := Value.int IntKind.i64 yn) (u4 := Value.slice ya ye yc) KY (by simp; omega)
        have SD7 := ((((SD.setCell (p := ⟨q, 0, none⟩) (by show wr.heap.size ≤ q; omega) (Value.int IntKind.i64 yt)).setCell (p := ⟨q, 1, none⟩) (by show wr.heap.size ≤ q; omega) (Value.int IntKind.i64 yl)).setCell (p := ⟨q, 2, none⟩) (by show wr.heap.size ≤ q; omega) (Value.int IntKind.i64 yv)).setCell (p := ⟨q, 3, none⟩) (by show wr.heap.size ≤ q; omega) (Value.int IntKind.i64 yn)).setCell (p := ⟨q, 4, none⟩) (by show wr.heap.size ≤ q; omega) (Value.slice ya ye yc)
        refine gro.anyM_done (by kernel_rfl) ?_
        intro y9 hz9
        go_wp2_with fail
        go_meet
        exact ⟨p, q, rfl, rfl, by omega, by omega, by omega, Lib.hid (KY.below hz9), Lib.hid (((Below.refl _ _).drew).trans (SD7.trans (hz9.mono SD7.size)))⟩
    case rest =>
    obtain ⟨p, q, rfl, rfl, hpw, hqw, hpq, KK, BQ⟩ := hcut
    have hszc := BQ.out.size
    have HM := Lib.hid (fun W (hb : Below wr.heap.size wr W) => MergeR_any xn xa xe xc xes yn ya ye yc yes W ((ERead.below HEx.out.1 hb).more hb.size) ((ERead.below HEy.out.1 hb).more hb.size) (by omega) (by omega))
    clear HX HY t1 t2 t3 t4 t5 HEx HEy
    have R := KK.out.rules
    simp only [Rules] at R
    go_wp2_with fail
    (with_reducible refine (HM.out _ BQ.out).mono ?_)
    rintro e w5 ⟨Am, mm, cm, rfl, m1, m2, m3, hb5⟩
    have hml := m3.len
    have hmm : mm ≤ 8000002 := by
      rw [← hml]
      unfold mrgP
      split
      · simp only; rw [merge_len]; omega
      · simp
    have HTW : Hid (twoR b (xt, xl, xv, xn, xes) (yt, yl, yv, yn, yes) = pruP (mrgP xn xes yn yes).1 b (mrgP xn xes yn yes).2) := rfl
    generalize (mrgP xn xes yn yes).1 = N1 at *
    generalize (mrgP xn xes yn yes).2 = es1 at *
    have BQ5 := Lib.hid (BQ.out.trans (hb5.mono BQ.out.size))
    have KK5 := Lib.hid (KK.out.below hb5)
    have hs5 := hb5.size
    have HAm := Lib.hid (fun h0 ad (h : Am = some ad) => rnk.Reads.blk m3 h0 ad h)
    obtain ⟨r, hr⟩ : ∃ r, w5.heap.size = r := ⟨_, rfl⟩
    have hqr : q < r := by have := (KK5.out _ (List.mem_cons_self ..)).lt; rw [hr] at this; exact this
    have hpr : p < r := by have := (KK5.out.tail _ (List.mem_cons_self ..)).lt; rw [hr] at this; exact this
    have BZ := Lib.hid (BQ5.out.alloc BQ5.out.size (.cells #[Value.int IntKind.i64 N1, Value.slice Am mm cm] 46))
    have KZ := Lib.hid (KK5.out.new (t := 46) (c := #[Value.int IntKind.i64 N1, Value.slice Am mm cm]) hr)
    have HMZ := Lib.hid ((ERead.below m3 ((Below.refl _ _).alloc (Nat.le_refl _) (.cells #[Value.int IntKind.i64 N1, Value.slice Am mm cm] 46))).more (B' := (w5.alloc (.cells #[Value.int IntKind.i64 N1, Value.slice Am mm cm] 46)).heap.size) (by simp))
    clear R m3 hb5 KK KK5 BQ BQ5 HM
    go_wp2_with fail
    obtain ⟨W6, hW, K6, B6, z6⟩ := name_world KZ.out BZ.out (s := r + 1) (by simp; omega)
    rw [hW]
    rw [hW] at HMZ
    have HAr : Hid (0 < mm → ∀ ad, Am = some ad → ad.block < r) := by have := HAm.out; rw [hr] at this; exact this
    clear hW KZ BZ hr HAm
    have R := K6.rules
    simp only [Rules] at R
    have HP := Lib.hid (PruneR_any N1 Am mm cm es1 b W6 HMZ.out (by omega) m1 m2)
    (with_reducible refine (HP.out).mono ?_)
    rintro e w7 ⟨Ap, mp, cp, rfl, n1, n2, n3, hb7, hfr7⟩
    have HTK : Hid (twoR b (bkey ⟨xt, xl, xv, xn, xa, xe, xc, xes⟩) (bkey ⟨yt, yl, yv, yn, ya, ye, yc, yes⟩) = twoR b (xt, xl, xv, xn, xes) (yt, yl, yv, yn, yes)) := rfl
    rw [show (pruP N1 b es1).1 = (twoR b (xt, xl, xv, xn, xes) (yt, yl, yv, yn, yes)).1 by rw [HTW.out]]
    have n3' : ERead w7 w7.heap.size Ap mp (twoR b (xt, xl, xv, xn, xes) (yt, yl, yv, yn, yes)).2 := by rw [HTW.out]; exact n3
    have hpe : (pruP N1 b es1).2.length ≤ es1.length := by
      unfold pruP
      split
      · rename_i hok
        exact pruL_len (by unfold pruOk at hok; simp at hok; omega)
      · simp
    have hApr : 0 < mp → ∀ ad, Ap = some ad → ad.block ≠ r := fun h0 ad h => by
      rcases hfr7 ad h with h2 | h2
      · omega
      · have hl := n3.len
        have := HAr.out (by omega) ad h2
        omega
    generalize twoR b (xt, xl, xv, xn, xes) (yt, yl, yv, yn, yes) = tw at *
    have K7 := K6.below hb7
    have B7 := B6.trans (hb7.mono B6.size)
    have hs7 := hb7.size
    have R7 := K7.rules
    simp only [Rules] at R7
    clear R HMZ HP K6 B6 hb7 n3 hfr7 hpe HAr
    go_upto_region 21 with fail
    have KU := Lib.hid (Bx.put2 (u := Value.int IntKind.i64 tw.1) (v := Value.slice Ap mp cp) K7 (by simp; omega))
    have BU := Lib.hid ((B7.setCell (p := ⟨r, 0, none⟩) (by show wr.heap.size ≤ r; omega) (Value.int IntKind.i64 tw.1)).setCell (p := ⟨r, 1, none⟩) (by show wr.heap.size ≤ r; omega) (Value.slice Ap mp cp))
    have HNU := Lib.hid (Reads.more (B' := ((w7.setCell ⟨r, 0, none⟩ (Value.int IntKind.i64 tw.1)).setCell ⟨r, 1, none⟩ (Value.slice Ap mp cp)).heap.size) (rnk.Reads.far (rnk.Reads.far n3' ⟨r, 0, none⟩ hApr (Value.int IntKind.i64 tw.1)) ⟨r, 1, none⟩ hApr (Value.slice Ap mp cp)) (by simp [World.setCell]))
    have hsu : r + 1 ≤ ((w7.setCell ⟨r, 0, none⟩ (Value.int IntKind.i64 tw.1)).setCell ⟨r, 1, none⟩ (Value.slice Ap mp cp)).heap.size := by simp [World.setCell]; omega
    clear R7 K7 B7 n3' hApr
    generalize (w7.setCell ⟨r, 0, none⟩ (Value.int IntKind.i64 tw.1)).setCell ⟨r, 1, none⟩ (Value.slice Ap mp cp) = W7 at *
    have R := KU.out.rules
    simp only [Rules] at R
    -- the box of both
    obtain ⟨gb, hgbx⟩ : ∃ s, W7.heap.size = s := ⟨_, rfl⟩
    have BZ := Lib.hid (BU.out.alloc BU.out.size (.cells #[Value.int IntKind.i64 yt, Value.int IntKind.i64 yl, Value.int IntKind.i64 ((l : Int) + 1), Value.int IntKind.i64 tw.1, Value.slice Ap mp cp] 64))
    have KZ := Lib.hid (KU.out.new (t := 64) (c := #[Value.int IntKind.i64 yt, Value.int IntKind.i64 yl, Value.int IntKind.i64 ((l : Int) + 1), Value.int IntKind.i64 tw.1, Value.slice Ap mp cp]) hgbx)
    have HNZ := Lib.hid ((ERead.below HNU.out ((Below.refl _ _).alloc (Nat.le_refl _) (.cells #[Value.int IntKind.i64 yt, Value.int IntKind.i64 yl, Value.int IntKind.i64 ((l : Int) + 1), Value.int IntKind.i64 tw.1, Value.slice Ap mp cp] 64))).more (B' := (W7.alloc (.cells #[Value.int IntKind.i64 yt, Value.int IntKind.i64 yl, Value.int IntKind.i64 ((l : Int) + 1), Value.int IntKind.i64 tw.1, Value.slice Ap mp cp] 64)).heap.size) (by simp))
    go_upto_region 22 with fail
    obtain ⟨W8, hW, K8, B8, z8⟩ := name_world KZ.out BZ.out (s := gb + 1) (by simp; omega)
    rw [hW]
    rw [hW] at HNZ
    clear hW KZ BZ hgbx R KU BU HNU
    have KK := Lib.hid (K8.perm (L' := [(gb, 64, #[Value.int IntKind.i64 yt, Value.int IntKind.i64 yl, Value.int IntKind.i64 ((l : Int) + 1), Value.int IntKind.i64 tw.1, Value.slice Ap mp cp])]) (by simp))
    have R := KK.out.rules
    simp only [Rules] at R
    have HO8 := Lib.hid (own_keep HOw.out B8)
    have HE8 := Lib.hid (EntR.below HEw.out B8)
    have BB8 := Lib.hid (BBw.out.trans (B8.mono BBw.out.size))
    have hgl : g' < wr.heap.size := own_lt HOw.out
    have hw8 := B8.size
    have HKy := Lib.hid (HJ.out ⟨yt, yl, (l : Int) + 1, tw.1, Ap, mp, cp, tw.2⟩ (by rw [HTK.out]; rfl))
    have HRa : Hid (Reads W8 W8.heap.size 5 (some ⟨g', 0, none⟩) bg (bc (ys.take bg))) := by
      have := (own_reads HO8.out (Nat.zero_le _)).front (show bg ≤ m - 0 by omega)
      rw [Hid, bc_take]
      exact Reads.more (by simpa using this) (by omega)
    have HRb : Hid (Reads W8 W8.heap.size 5 (some ⟨g', (bg + 2) * 5, none⟩) (m - (bg + 2)) (bc (ys.drop (bg + 2)))) := by
      have := own_cut HO8.out (k := bg + 2) (by omega) hmc
      rw [if_neg (by omega)] at this
      rw [Hid, bc_drop]
      exact Reads.more this (by omega)
    have s1 : IntKind.i64.wrap ((bg : Int) + 2) = (bg : Int) + 2 := IntWalk.i64_in _ (by omega)
    have s2 : ((bg : Int) + 2).toNat = bg + 2 := by omega
    have s3 : (bg : Int) ≤ c' := by omega
    have s4 : (bg : Int) + 2 ≤ m := by omega
    have s5 : 0 ≤ (bg : Int) + 2 := by omega
    have s6 : (m : Int) ≤ c' := by omega
    have s7 : 0 ≤ (bg : Int) := by omega
    clear K8 B8 HOw HEw BBw HO8
    (refine gro.wp_region_heldA [1, 2, 3, 5, 8, 9, 10, 11] 6 13 _ (gro.lasts_bx _) (by kernel_rfl) (by kernel_rfl) (by intro _ _ _ _ _ h; exact h) (by kernel_rfl) (by kernel_rfl) (by kernel_rfl) (by kernel_rfl) (by kernel_rfl) (by decide) (KK.out).drew ?_; apply Exists.intro; refine ⟨fun w0 hb0 => ?_, ?_⟩; focus (have RZ := gro.Bx.rules hb0; simp only [gro.Rules] at RZ; simp only [gro.pickA, List.filterMap_cons, List.filterMap_nil, List.getElem?_toArray, List.getElem?_cons_succ, List.getElem?_cons_zero]; change wpQuiet _ _ _ _ (_ :: _ :: _ :: _ :: _ :: _ :: _ :: _ ::  []) _; (repeat (go_big_quiet_step ((fail)))); exact wpQuiet_nil rfl))
    have B0 : Below W8.heap.size W8 W8.drew := (Below.refl _ _).drew
    refine gro.anyM_two 0 6 (by kernel_rfl) rfl rfl ?_ ?_
    · skip
      intro y1 hz1 K' hK'
      have BZ1 := B0.trans (hz1.mono B0.size)
      go_simp
      refine hK' _ _ ⟨fun _ => (KK.out.below BZ1).alloc _, ?_⟩
      clear hK' K'
      obtain ⟨z1, hy1⟩ : ∃ z, y1.alloc (.cells #[] 64) = z := ⟨_, rfl⟩
      have hA1 : Below y1.heap.size y1 z1 := by rw [← hy1]; exact (Below.refl _ _).alloc (Nat.le_refl _) _
      have BA1 := BZ1.trans (hA1.mono BZ1.size)
      have HV1 : z1.ownsRow W8.heap.size 64 5 (.slice (some ⟨y1.heap.size, 0, none⟩) 0 0) 0 [] := by rw [← hy1]; exact own_empty2 rfl BZ1.size
      rw [hy1]
      clear hz1 hA1 hy1
      refine gro.anyM_two 4 6 (by kernel_rfl) rfl rfl ?_ ?_
      · skip
        intro y2 hz2 K' hK'
        have BZ2 := BA1.trans (hz2.mono BA1.size)
        have HU2 := own_keep HV1 hz2
        refine step_append_any _ (by rfl) (.tmp 125) (.tmp 128) 22 rfl W8.heap.size 64 i0 (.agg #[.int .i64 0, .int .i64 0, .int .i64 0, .int .i64 0, .slice none 0 0]) 5 56 Try.underlying22 HI.out HZ0.out HZ1.out HZ2.out rfl (by omega) ((.slice (some ⟨y1.heap.size, 0, none⟩) 0 0)) (0) ([]) (by rfl) HU2 _ (some ⟨g', 0, none⟩) (bg) (c') (bc (ys.take bg)) (by rfl) (Reads.below (HRa.out) BZ2) (bc_oneCell _) (by unfold maxLen; omega) (by omega) BZ2.size ?_
        intro v2 w2 hown2 hg2 hat2
        have BG2 := below_own hg2 HU2 BZ2 (Nat.le_refl _) BZ2.size
        refine hK' _ _ ⟨fun _ => KK.out.below BG2, ?_⟩
        clear hK' K' hg2 hat2
        refine gro.anyM_one 6 (by kernel_rfl) rfl ?_
        intro y3 hz3 K' hK'
        have BZ3 := BG2.trans (hz3.mono BG2.size)
        have HU3 := own_keep hown2 hz3
        go_simp
        refine hK' _ _ ⟨fun _ => (KK.out.below BZ3).alloc _, ?_⟩
        clear hK' K'
        obtain ⟨z3, hy3⟩ : ∃ z, y3.alloc (.cells #[Value.int IntKind.i64 yt, Value.int IntKind.i64 yl, Value.int IntKind.i64 ((l : Int) + 1), Value.int IntKind.i64 tw.1, Value.slice Ap mp cp] 64) = z := ⟨_, rfl⟩
        have hA3 : Below y3.heap.size y3 z3 := by rw [← hy3]; exact (Below.refl _ _).alloc (Nat.le_refl _) _
        have BA3 := BZ3.trans (hA3.mono BZ3.size)
        have HV3 := own_keep HU3 hA3
        have HF3 : Reads z3 z3.heap.size 5 (some ⟨y3.heap.size, 0, none⟩) 1 [Value.int IntKind.i64 yt, Value.int IntKind.i64 yl, Value.int IntKind.i64 ((l : Int) + 1), Value.int IntKind.i64 tw.1, Value.slice Ap mp cp] := by rw [← hy3]; exact Reads.more (reads_new y3 64 #[Value.int IntKind.i64 yt, Value.int IntKind.i64 yl, Value.int IntKind.i64 ((l : Int) + 1), Value.int IntKind.i64 tw.1, Value.slice Ap mp cp] rfl) (by simp)
        have le3 : y3.heap.size + 1 ≤ z3.heap.size := by rw [← hy3]; simp
        have hd3 : some y3.heap.size ≠ (Value.ownBlock v2) := fun e => by have h1 := (World.ownsRow.lt HU3 _ e.symm).2; omega
        rw [hy3]
        clear hz3 hA3 hy3
        refine gro.anyM_one 7 (by kernel_rfl) rfl ?_
        intro y4 hz4 K' hK'
        have BZ4 := BA3.trans (hz4.mono BA3.size)
        have HU4 := own_keep HV3 hz4
        have HE4 := (Reads.below HF3 hz4).more hz4.size
        refine step_append_any _ (by rfl) (.tmp 129) (.tmp 131) 22 rfl W8.heap.size 64 i0 (.agg #[.int .i64 0, .int .i64 0, .int .i64 0, .int .i64 0, .slice none 0 0]) 5 56 Try.underlying22 HI.out HZ0.out HZ1.out HZ2.out rfl (by omega) (v2) (0 + (bg)) ([] ++ (bc (ys.take bg))) (by rfl) HU4 _ _ (1) (1) _ (by rfl) HE4 (by simp [Value.oneCell']) (by unfold maxLen; omega) (by omega) BZ4.size ?_
        intro v4 w4 hown4 hg4 hat4
        have BG4 := below_own hg4 HU4 BZ4 (Nat.le_refl _) BZ4.size
        refine hK' _ _ ⟨fun _ => KK.out.below BG4, ?_⟩
        clear hK' K' hg4 hat4
        refine gro.anyM_one 12 (by kernel_rfl) rfl ?_
        intro y5 hz5 K' hK'
        have BZ5 := BG4.trans (hz5.mono BG4.size)
        have HU5 := own_keep hown4 hz5
        refine step_append_any _ (by rfl) (.tmp 132) (.tmp 136) 22 rfl W8.heap.size 64 i0 (.agg #[.int .i64 0, .int .i64 0, .int .i64 0, .int .i64 0, .slice none 0 0]) 5 56 Try.underlying22 HI.out HZ0.out HZ1.out HZ2.out rfl (by omega) (v4) (0 + (bg) + (1)) ([] ++ (bc (ys.take bg)) ++ [Value.int IntKind.i64 yt, Value.int IntKind.i64 yl, Value.int IntKind.i64 ((l : Int) + 1), Value.int IntKind.i64 tw.1, Value.slice Ap mp cp]) (by rfl) HU5 _ _ (m - (bg + 2)) (c' - (bg + 2)) (bc (ys.drop (bg + 2))) (by rfl) (Reads.below (HRb.out) BZ5) (bc_oneCell _) (by unfold maxLen; omega) (by omega) BZ5.size ?_
        intro v5 w5 hown5 hg5 hat5
        have BG5 := below_own hg5 HU5 BZ5 (Nat.le_refl _) BZ5.size
        refine hK' _ _ ⟨fun _ => KK.out.below BG5, ?_⟩
        clear hK' K' hg5 hat5
        obtain ⟨g7, c7, rfl, r1, r2, r3, r4⟩ := own_form2 hown5 (by omega)
        refine gro.anyM_one 13 (by kernel_rfl) rfl ?_
        intro y6 hz6 K' hK'
        have BZ6 := BG5.trans (hz6.mono BG5.size)
        have HU6 := own_keep hown5 hz6
        go_simp
        refine hK' _ _ ⟨fun h => absurd (show true = false from h) (by decide), ?_⟩
        clear hK' K'
        refine gro.anyM_done (by kernel_rfl) ?_
        intro y7 hz7
        have B7 := Lib.hid (BZ6.trans (hz7.mono BZ6.size))
        have HO7 := Lib.hid (own_keep HU6 hz7)
        have hlen7 : 0 + bg + 1 + (m - (bg + 2)) = bg + 1 + (m - (bg + 2)) := by omega
        have HO9 : Hid (y7.ownsRow w.heap.size 64 5 (.slice (some ⟨g7, 0, none⟩) (bg + 1 + (m - (bg + 2))) c7) (bg + 1 + (m - (bg + 2))) (bc (joinM ys bg ⟨yt, yl, (l : Int) + 1, tw.1, Ap, mp, cp, tw.2⟩))) := by
          have h := own_mono HO7.out BB8.out.size
          have e : [] ++ bc (ys.take bg) ++ [Value.int IntKind.i64 yt, Value.int IntKind.i64 yl, Value.int IntKind.i64 ((l : Int) + 1), Value.int IntKind.i64 tw.1, Value.slice Ap mp cp] ++ bc (ys.drop (bg + 2)) = bc (joinM ys bg ⟨yt, yl, (l : Int) + 1, tw.1, Ap, mp, cp, tw.2⟩) := by
            rw [joinM, bc_append, bc_cons]; simp
          rw [e, hlen7] at h
          exact h
        have HE9 : Hid (EntR y7 (joinM ys bg ⟨yt, yl, (l : Int) + 1, tw.1, Ap, mp, cp, tw.2⟩)) := fun z hz => by
          have h8 := EntR.below HE8.out B7.out
          unfold joinM at hz
          rcases List.mem_append.1 hz with h | h
          · exact h8 z (List.mem_of_mem_take h)
          · rcases List.mem_cons.1 h with rfl | h
            · exact ⟨(ERead.below HNZ.out B7.out).more B7.out.size, n1, n2⟩
            · exact h8 z (List.mem_of_mem_drop h)
        have HLj : Hid ((joinM ys bg (⟨yt, yl, (l : Int) + 1, tw.1, Ap, mp, cp, tw.2⟩ : BlkM)).length = bg + 1 + (m - (bg + 2))) := by rw [Hid, joinM_len (by rw [HLy.out]; omega), HLy.out]; omega
        have HEK5 : Hid (entsK ((joinM ys bg (⟨yt, yl, (l : Int) + 1, tw.1, Ap, mp, cp, tw.2⟩ : BlkM)).map bkey) ≤ 4000001) := by
          rw [Hid, HKy.out]
          exact Nat.le_trans (joinK_ents (by rw [List.length_map, HLy.out]; omega)) HEK.out
        have HC5 : Hid (putRK k b f ((joinM ys bg (⟨yt, yl, (l : Int) + 1, tw.1, Ap, mp, cp, tw.2⟩ : BlkM)).map bkey) (l + 1) = putKC (xs.map bkey) k b t v) := by
          rw [Hid, HKy.out]; exact HC.out
        rw [hlen7] at r1
        go_wp2
        go_roundg f
        case measure => omega
        case rel => exact ⟨joinM ys bg ⟨yt, yl, (l : Int) + 1, tw.1, Ap, mp, cp, tw.2⟩, bg + 1 + (m - (bg + 2)), l + 1, f, g7, c7, rfl, by go_num, by omega, by omega, r1, r2, by omega, Nat.le_refl _, by have := BB8.out.size; omega, HLj, HO9, HE9, BB8.out.trans (B7.out.mono BB8.out.size), HEK5, HC5⟩
      · skip
        intro y8 hz8 K' hK'
        have BZ8 := BA1.trans (hz8.mono BA1.size)
        have HU8 := own_keep HV1 hz8
        go_simp
        refine hK' _ _ ⟨fun _ => (KK.out.below BZ8).alloc _, ?_⟩
        clear hK' K'
        obtain ⟨z8, hy8⟩ : ∃ z, y8.alloc (.cells #[Value.int IntKind.i64 yt, Value.int IntKind.i64 yl, Value.int IntKind.i64 ((l : Int) + 1), Value.int IntKind.i64 tw.1, Value.slice Ap mp cp] 64) = z := ⟨_, rfl⟩
        have hA8 : Below y8.heap.size y8 z8 := by rw [← hy8]; exact (Below.refl _ _).alloc (Nat.le_refl _) _
        have BA8 := BZ8.trans (hA8.mono BZ8.size)
        have HV8 := own_keep HU8 hA8
        have HF8 : Reads z8 z8.heap.size 5 (some ⟨y8.heap.size, 0, none⟩) 1 [Value.int IntKind.i64 yt, Value.int IntKind.i64 yl, Value.int IntKind.i64 ((l : Int) + 1), Value.int IntKind.i64 tw.1, Value.slice Ap mp cp] := by rw [← hy8]; exact Reads.more (reads_new y8 64 #[Value.int IntKind.i64 yt, Value.int IntKind.i64 yl, Value.int IntKind.i64 ((l : Int) + 1), Value.int IntKind.i64 tw.1, Value.slice Ap mp cp] rfl) (by simp)
        have le8 : y8.heap.size + 1 ≤ z8.heap.size := by rw [← hy8]; simp
        have hd8 : some y8.heap.size ≠ (Value.ownBlock (.slice (some ⟨y1.heap.size, 0, none⟩) 0 0)) := fun e => by have h1 := (World.ownsRow.lt HU8 _ e.symm).2; omega
        rw [hy8]
        clear hz8 hA8 hy8
        refine gro.anyM_one 4 (by kernel_rfl) rfl ?_
        intro y9 hz9 K' hK'
        have BZ9 := BA8.trans (hz9.mono BA8.size)
        have HU9 := own_keep HV8 hz9
        have HE9 := (Reads.below HF8 hz9).more hz9.size
        refine step_append_any _ (by rfl) (.tmp 125) (.tmp 128) 22 rfl W8.heap.size 64 i0 (.agg #[.int .i64 0, .int .i64 0, .int .i64 0, .int .i64 0, .slice none 0 0]) 5 56 Try.underlying22 HI.out HZ0.out HZ1.out HZ2.out rfl (by omega) ((.slice (some ⟨y1.heap.size, 0, none⟩) 0 0)) (0) ([]) (by rfl) HU9 _ (some ⟨g', 0, none⟩) (bg) (c') (bc (ys.take bg)) (by rfl) (Reads.below (HRa.out) BZ9) (bc_oneCell _) (by unfold maxLen; omega) (by omega) BZ9.size ?_
        intro v9 w9 hown9 hg9 hat9
        have BG9 := below_own hg9 HU9 BZ9 (Nat.le_refl _) BZ9.size
        have HG9 := Reads.appG HE9 hg9 (fun _ ad e => by injection e with e; subst e; exact hd8)
        refine hK' _ _ ⟨fun _ => KK.out.below BG9, ?_⟩
        clear hK' K' hg9 hat9
        refine gro.anyM_one 7 (by kernel_rfl) rfl ?_
        intro y10 hz10 K' hK'
        have BZ10 := BG9.trans (hz10.mono BG9.size)
        have HU10 := own_keep hown9 hz10
        have HE10 := (Reads.below HG9 hz10).more hz10.size
        refine step_append_any _ (by rfl) (.tmp 129) (.tmp 131) 22 rfl W8.heap.size 64 i0 (.agg #[.int .i64 0, .int .i64 0, .int .i64 0, .int .i64 0, .slice none 0 0]) 5 56 Try.underlying22 HI.out HZ0.out HZ1.out HZ2.out rfl (by omega) (v9) (0 + (bg)) ([] ++ (bc (ys.take bg))) (by rfl) HU10 _ _ (1) (1) _ (by rfl) HE10 (by simp [Value.oneCell']) (by unfold maxLen; omega) (by omega) BZ10.size ?_
        intro v10 w10 hown10 hg10 hat10
        have BG10 := below_own hg10 HU10 BZ10 (Nat.le_refl _) BZ10.size
        refine hK' _ _ ⟨fun _ => KK.out.below BG10, ?_⟩
        clear hK' K' hg10 hat10
        refine gro.anyM_one 12 (by kernel_rfl) rfl ?_
        intro y11 hz11 K' hK'
        have BZ11 := BG10.trans (hz11.mono BG10.size)
        have HU11 := own_keep hown10 hz11
        refine step_append_any _ (by rfl) (.tmp 132) (.tmp 136) 22 rfl W8.heap.size 64 i0 (.agg #[.int .i64 0, .int .i64 0, .int .i64 0, .int .i64 0, .slice none 0 0]) 5 56 Try.underlying22 HI.out HZ0.out HZ1.out HZ2.out rfl (by omega) (v10) (0 + (bg) + (1)) ([] ++ (bc (ys.take bg)) ++ [Value.int IntKind.i64 yt, Value.int IntKind.i64 yl, Value.int IntKind.i64 ((l : Int) + 1), Value.int IntKind.i64 tw.1, Value.slice Ap mp cp]) (by rfl) HU11 _ _ (m - (bg + 2)) (c' - (bg + 2)) (bc (ys.drop (bg + 2))) (by rfl) (Reads.below (HRb.out) BZ11) (bc_oneCell _) (by unfold maxLen; omega) (by omega) BZ11.size ?_
        intro v11 w11 hown11 hg11 hat11
        have BG11 := below_own hg11 HU11 BZ11 (Nat.le_refl _) BZ11.size
        refine hK' _ _ ⟨fun _ => KK.out.below BG11, ?_⟩
        clear hK' K' hg11 hat11
        obtain ⟨g7, c7, rfl, r1, r2, r3, r4⟩ := own_form2 hown11 (by omega)
        refine gro.anyM_one 13 (by kernel_rfl) rfl ?_
        intro y12 hz12 K' hK'
        have BZ12 := BG11.trans (hz12.mono BG11.size)
        have HU12 := own_keep hown11 hz12
        go_simp
        refine hK' _ _ ⟨fun h => absurd (show true = false from h) (by decide), ?_⟩
        clear hK' K'
        refine gro.anyM_done (by kernel_rfl) ?_
        intro y13 hz13
        have B7 := Lib.hid (BZ12.trans (hz13.mono BZ12.size))
        have HO7 := Lib.hid (own_keep HU12 hz13)
        have hlen7 : 0 + bg + 1 + (m - (bg + 2)) = bg + 1 + (m - (bg + 2)) := by omega
        have HO9 : Hid (y13.ownsRow w.heap.size 64 5 (.slice (some ⟨g7, 0, none⟩) (bg + 1 + (m - (bg + 2))) c7) (bg + 1 + (m - (bg + 2))) (bc (joinM ys bg ⟨yt, yl, (l : Int) + 1, tw.1, Ap, mp, cp, tw.2⟩))) := by
          have h := own_mono HO7.out BB8.out.size
          have e : [] ++ bc (ys.take bg) ++ [Value.int IntKind.i64 yt, Value.int IntKind.i64 yl, Value.int IntKind.i64 ((l : Int) + 1), Value.int IntKind.i64 tw.1, Value.slice Ap mp cp] ++ bc (ys.drop (bg + 2)) = bc (joinM ys bg ⟨yt, yl, (l : Int) + 1, tw.1, Ap, mp, cp, tw.2⟩) := by
            rw [joinM, bc_append, bc_cons]; simp
          rw [e, hlen7] at h
          exact h
        have HE9 : Hid (EntR y13 (joinM ys bg ⟨yt, yl, (l : Int) + 1, tw.1, Ap, mp, cp, tw.2⟩)) := fun z hz => by
          have h8 := EntR.below HE8.out B7.out
          unfold joinM at hz
          rcases List.mem_append.1 hz with h | h
          · exact h8 z (List.mem_of_mem_take h)
          · rcases List.mem_cons.1 h with rfl | h
            · exact ⟨(ERead.below HNZ.out B7.out).more B7.out.size, n1, n2⟩
            · exact h8 z (List.mem_of_mem_drop h)
        have HLj : Hid ((joinM ys bg (⟨yt, yl, (l : Int) + 1, tw.1, Ap, mp, cp, tw.2⟩ : BlkM)).length = bg + 1 + (m - (bg + 2))) := by rw [Hid, joinM_len (by rw [HLy.out]; omega), HLy.out]; omega
        have HEK5 : Hid (entsK ((joinM ys bg (⟨yt, yl, (l : Int) + 1, tw.1, Ap, mp, cp, tw.2⟩ : BlkM)).map bkey) ≤ 4000001) := by
          rw [Hid, HKy.out]
          exact Nat.le_trans (joinK_ents (by rw [List.length_map, HLy.out]; omega)) HEK.out
        have HC5 : Hid (putRK k b f ((joinM ys bg (⟨yt, yl, (l : Int) + 1, tw.1, Ap, mp, cp, tw.2⟩ : BlkM)).map bkey) (l + 1) = putKC (xs.map bkey) k b t v) := by
          rw [Hid, HKy.out]; exact HC.out
        rw [hlen7] at r1
        go_wp2
        go_roundg f
        case measure => omega
        case rel => exact ⟨joinM ys bg ⟨yt, yl, (l : Int) + 1, tw.1, Ap, mp, cp, tw.2⟩, bg + 1 + (m - (bg + 2)), l + 1, f, g7, c7, rfl, by go_num, by omega, by omega, r1, r2, by omega, Nat.le_refl _, by have := BB8.out.size; omega, HLj, HO9, HE9, BB8.out.trans (B7.out.mono BB8.out.size), HEK5, HC5⟩
    · skip
      intro y14 hz14 K' hK'
      have BZ14 := B0.trans (hz14.mono B0.size)
      go_simp
      refine hK' _ _ ⟨fun _ => (KK.out.below BZ14).alloc _, ?_⟩
      clear hK' K'
      obtain ⟨z14, hy14⟩ : ∃ z, y14.alloc (.cells #[Value.int IntKind.i64 yt, Value.int IntKind.i64 yl, Value.int IntKind.i64 ((l : Int) + 1), Value.int IntKind.i64 tw.1, Value.slice Ap mp cp] 64) = z := ⟨_, rfl⟩
      have hA14 : Below y14.heap.size y14 z14 := by rw [← hy14]; exact (Below.refl _ _).alloc (Nat.le_refl _) _
      have BA14 := BZ14.trans (hA14.mono BZ14.size)
      have HF14 : Reads z14 z14.heap.size 5 (some ⟨y14.heap.size, 0, none⟩) 1 [Value.int IntKind.i64 yt, Value.int IntKind.i64 yl, Value.int IntKind.i64 ((l : Int) + 1), Value.int IntKind.i64 tw.1, Value.slice Ap mp cp] := by rw [← hy14]; exact Reads.more (reads_new y14 64 #[Value.int IntKind.i64 yt, Value.int IntKind.i64 yl, Value.int IntKind.i64 ((l : Int) + 1), Value.int IntKind.i64 tw.1, Value.slice Ap mp cp] rfl) (by simp)
      have le14 : y14.heap.size + 1 ≤ z14.heap.size := by rw [← hy14]; simp
      rw [hy14]
      clear hz14 hA14 hy14
      refine gro.anyM_one 0 (by kernel_rfl) rfl ?_
      intro y15 hz15 K' hK'
      have BZ15 := BA14.trans (hz15.mono BA14.size)
      have HE15 := (Reads.below HF14 hz15).more hz15.size
      go_simp
      refine hK' _ _ ⟨fun _ => (KK.out.below BZ15).alloc _, ?_⟩
      clear hK' K'
      obtain ⟨z15, hy15⟩ : ∃ z, y15.alloc (.cells #[] 64) = z := ⟨_, rfl⟩
      have hA15 : Below y15.heap.size y15 z15 := by rw [← hy15]; exact (Below.refl _ _).alloc (Nat.le_refl _) _
      have BA15 := BZ15.trans (hA15.mono BZ15.size)
      have HF15 := (Reads.below HE15 hA15).more hA15.size
      have HV15 : z15.ownsRow W8.heap.size 64 5 (.slice (some ⟨y15.heap.size, 0, none⟩) 0 0) 0 [] := by rw [← hy15]; exact own_empty2 rfl BZ15.size
      have hd15 : some y14.heap.size ≠ (Value.slice (some ⟨y15.heap.size, 0, none⟩) 0 0).ownBlock := fun e => by have h1 : y14.heap.size = y15.heap.size := Option.some.inj e; have h2 := le14; have h3 := hz15.size; omega
      rw [hy15]
      clear hA15 hy15
      refine gro.anyM_one 4 (by kernel_rfl) rfl ?_
      intro y16 hz16 K' hK'
      have BZ16 := BA15.trans (hz16.mono BA15.size)
      have HU16 := own_keep HV15 hz16
      have HE16 := (Reads.below HF15 hz16).more hz16.size
      refine step_append_any _ (by rfl) (.tmp 125) (.tmp 128) 22 rfl W8.heap.size 64 i0 (.agg #[.int .i64 0, .int .i64 0, .int .i64 0, .int .i64 0, .slice none 0 0]) 5 56 Try.underlying22 HI.out HZ0.out HZ1.out HZ2.out rfl (by omega) ((.slice (some ⟨y15.heap.size, 0, none⟩) 0 0)) (0) ([]) (by rfl) HU16 _ (some ⟨g', 0, none⟩) (bg) (c') (bc (ys.take bg)) (by rfl) (Reads.below (HRa.out) BZ16) (bc_oneCell _) (by unfold maxLen; omega) (by omega) BZ16.size ?_
      intro v16 w16 hown16 hg16 hat16
      have BG16 := below_own hg16 HU16 BZ16 (Nat.le_refl _) BZ16.size
      have HG16 := Reads.appG HE16 hg16 (fun _ ad e => by injection e with e; subst e; exact hd15)
      refine hK' _ _ ⟨fun _ => KK.out.below BG16, ?_⟩
      clear hK' K' hg16 hat16
      refine gro.anyM_one 7 (by kernel_rfl) rfl ?_
      intro y17 hz17 K' hK'
      have BZ17 := BG16.trans (hz17.mono BG16.size)
      have HU17 := own_keep hown16 hz17
      have HE17 := (Reads.below HG16 hz17).more hz17.size
      refine step_append_any _ (by rfl) (.tmp 129) (.tmp 131) 22 rfl W8.heap.size 64 i0 (.agg #[.int .i64 0, .int .i64 0, .int .i64 0, .int .i64 0, .slice none 0 0]) 5 56 Try.underlying22 HI.out HZ0.out HZ1.out HZ2.out rfl (by omega) (v16) (0 + (bg)) ([] ++ (bc (ys.take bg))) (by rfl) HU17 _ _ (1) (1) _ (by rfl) HE17 (by simp [Value.oneCell']) (by unfold maxLen; omega) (by omega) BZ17.size ?_
      intro v17 w17 hown17 hg17 hat17
      have BG17 := below_own hg17 HU17 BZ17 (Nat.le_refl _) BZ17.size
      refine hK' _ _ ⟨fun _ => KK.out.below BG17, ?_⟩
      clear hK' K' hg17 hat17
      refine gro.anyM_one 12 (by kernel_rfl) rfl ?_
      intro y18 hz18 K' hK'
      have BZ18 := BG17.trans (hz18.mono BG17.size)
      have HU18 := own_keep hown17 hz18
      refine step_append_any _ (by rfl) (.tmp 132) (.tmp 136) 22 rfl W8.heap.size 64 i0 (.agg #[.int .i64 0, .int .i64 0, .int .i64 0, .int .i64 0, .slice none 0 0]) 5 56 Try.underlying22 HI.out HZ0.out HZ1.out HZ2.out rfl (by omega) (v17) (0 + (bg) + (1)) ([] ++ (bc (ys.take bg)) ++ [Value.int IntKind.i64 yt, Value.int IntKind.i64 yl, Value.int IntKind.i64 ((l : Int) + 1), Value.int IntKind.i64 tw.1, Value.slice Ap mp cp]) (by rfl) HU18 _ _ (m - (bg + 2)) (c' - (bg + 2)) (bc (ys.drop (bg + 2))) (by rfl) (Reads.below (HRb.out) BZ18) (bc_oneCell _) (by unfold maxLen; omega) (by omega) BZ18.size ?_
      intro v18 w18 hown18 hg18 hat18
      have BG18 := below_own hg18 HU18 BZ18 (Nat.le_refl _) BZ18.size
      refine hK' _ _ ⟨fun _ => KK.out.below BG18, ?_⟩
      clear hK' K' hg18 hat18
      obtain ⟨g7, c7, rfl, r1, r2, r3, r4⟩ := own_form2 hown18 (by omega)
      refine gro.anyM_one 13 (by kernel_rfl) rfl ?_
      intro y19 hz19 K' hK'
      have BZ19 := BG18.trans (hz19.mono BG18.size)
      have HU19 := own_keep hown18 hz19
      go_simp
      refine hK' _ _ ⟨fun h => absurd (show true = false from h) (by decide), ?_⟩
      clear hK' K'
      refine gro.anyM_done (by kernel_rfl) ?_
      intro y20 hz20
      have B7 := Lib.hid (BZ19.trans (hz20.mono BZ19.size))
      have HO7 := Lib.hid (own_keep HU19 hz20)
      have hlen7 : 0 + bg + 1 + (m - (bg + 2)) = bg + 1 + (m - (bg + 2)) := by omega
      have HO9 : Hid (y20.ownsRow w.heap.size 64 5 (.slice (some ⟨g7, 0, none⟩) (bg + 1 + (m - (bg + 2))) c7) (bg + 1 + (m - (bg + 2))) (bc (joinM ys bg ⟨yt, yl, (l : Int) + 1, tw.1, Ap, mp, cp, tw.2⟩))) := by
        have h := own_mono HO7.out BB8.out.size
        have e : [] ++ bc (ys.take bg) ++ [Value.int IntKind.i64 yt, Value.int IntKind.i64 yl, Value.int IntKind.i64 ((l : Int) + 1), Value.int IntKind.i64 tw.1, Value.slice Ap mp cp] ++ bc (ys.drop (bg + 2)) = bc (joinM ys bg ⟨yt, yl, (l : Int) + 1, tw.1, Ap, mp, cp, tw.2⟩) := by
          rw [joinM, bc_append, bc_cons]; simp
        rw [e, hlen7] at h
        exact h
      have HE9 : Hid (EntR y20 (joinM ys bg ⟨yt, yl, (l : Int) + 1, tw.1, Ap, mp, cp, tw.2⟩)) := fun z hz => by
        have h8 := EntR.below HE8.out B7.out
        unfold joinM at hz
        rcases List.mem_append.1 hz with h | h
        · exact h8 z (List.mem_of_mem_take h)
        · rcases List.mem_cons.1 h with rfl | h
          · exact ⟨(ERead.below HNZ.out B7.out).more B7.out.size, n1, n2⟩
          · exact h8 z (List.mem_of_mem_drop h)
      have HLj : Hid ((joinM ys bg (⟨yt, yl, (l : Int) + 1, tw.1, Ap, mp, cp, tw.2⟩ : BlkM)).length = bg + 1 + (m - (bg + 2))) := by rw [Hid, joinM_len (by rw [HLy.out]; omega), HLy.out]; omega
      have HEK5 : Hid (entsK ((joinM ys bg (⟨yt, yl, (l : Int) + 1, tw.1, Ap, mp, cp, tw.2⟩ : BlkM)).map bkey) ≤ 4000001) := by
        rw [Hid, HKy.out]
        exact Nat.le_trans (joinK_ents (by rw [List.length_map, HLy.out]; omega)) HEK.out
      have HC5 : Hid (putRK k b f ((joinM ys bg (⟨yt, yl, (l : Int) + 1, tw.1, Ap, mp, cp, tw.2⟩ : BlkM)).map bkey) (l + 1) = putKC (xs.map bkey) k b t v) := by
        rw [Hid, HKy.out]; exact HC.out
      rw [hlen7] at r1
      go_wp2
      go_roundg f
      case measure => omega
      case rel => exact ⟨joinM ys bg ⟨yt, yl, (l : Int) + 1, tw.1, Ap, mp, cp, tw.2⟩, bg + 1 + (m - (bg + 2)), l + 1, f, g7, c7, rfl, by go_num, by omega, by omega, r1, r2, by omega, Nat.le_refl _, by have := BB8.out.size; omega, HLj, HO9, HE9, BB8.out.trans (B7.out.mono BB8.out.size), HEK5, HC5⟩
end Go.Proofs.Ytjapjfcennemeaa.blk
