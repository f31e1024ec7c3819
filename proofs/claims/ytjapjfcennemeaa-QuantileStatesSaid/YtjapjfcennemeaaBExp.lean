/- Contract of blocks.Expire. -/
import Derived.Test.YtjapjfcennemeaaApp
import Derived.Test.YtjapjfcennemeaaMgTri
import Derived.Deep.QuietTactic
import Derived.BigQuiet
import Derived.Deep.LoopGhost
import Derived.LoopTactic
import Derived.Outline
import Derived.OwnWalk
namespace Go.Proofs.Ytjapjfcennemeaa.blk
open Go.RowKit Go.Proofs.Ytjapjfcennemeaa.mem
set_option linter.unusedVariables false
theorem block_info : (Try.prog.info? 64).map (fun i => (i.zero, i.size, i.bytes)) = some (some (.agg #[.int .i64 0, .int .i64 0, .int .i64 0, .int .i64 0, .slice none 0 0]), 5, 56) := by kernel_rfl
theorem entry_info : (Try.prog.info? 94).map (fun i => (i.zero, i.size, i.bytes)) = some (some (.agg #[.int .i64 0, .int .i64 0, .int .i64 0]), 3, 24) := by kernel_rfl
def expireB (f : Int) (xs : List BlkM) : List BlkM := xs.dropWhile (fun p => decide (p.t < f))
theorem expB_yes {f : Int} {b : BlkM} {xs : List BlkM} (h : b.t < f) : expireB f (b :: xs) = expireB f xs := by simp [expireB, List.dropWhile, h]
theorem expB_no {f : Int} {b : BlkM} {xs : List BlkM} (h : ¬ b.t < f) : expireB f (b :: xs) = b :: xs := by simp [expireB, List.dropWhile, h]
set_option maxHeartbeats 2000000 in
theorem ExpireRef_any (A : Option Addr) (n c : Nat) (xs : List BlkM) (f : Int) (w : World) (B : Nat) (h1 : BRead w B A n xs) (hnc : n ≤ c) (hcm : c ≤ maxLen) :
    Calls Try.prog 30 #[.slice A n c, .int .i64 f] w fun e w' => ∃ A m c, e = .returned (.slice A m c) ∧ m ≤ c ∧ c ≤ maxLen ∧ BRead w B A m (expireB f xs) ∧ w = w' := by
  have hcm9 : c ≤ 9223372036854775807 := hcm
  clear hcm
  have H1 := Lib.hid h1
  clear h1
  go_enter Try.func30, Try.ntmps30
  go_wp2
  go_loop [0] (fun s => ∃ (m c' : Nat) (A' : Option Addr) (ys : List BlkM), s = .slice A' m c' ∧ m ≤ c' ∧ c' ≤ 9223372036854775807 ∧ Hid (BRead w B A' m ys) ∧ Hid (expireB f ys = expireB f xs)) (fun s => match s with | .slice _ m _ => m | _ => 0)
  case atStart => exact ⟨n, c, A, xs, rfl, hnc, hcm9, H1, (rfl : expireB f xs = expireB f xs)⟩
  case round =>
    obtain ⟨m, c', A', ys, rfl, hmc, hcm', H, HE⟩ := hrel
    have HL := Lib.hid H.out.len
    by_cases hm : 0 < m
    · cases ys with
      | nil => have := HL.out; simp at this; omega
      | cons b ys =>
      obtain ⟨ad, rfl, _, hc1⟩ := H.out.first
      have hy := Lib.hid (expB_yes (f := f) (b := b) (xs := ys))
      have hn := Lib.hid (expB_no (f := f) (b := b) (xs := ys))
      obtain ⟨z, hz0⟩ : ∃ z, b.t = z := ⟨_, rfl⟩
      rw [hz0] at hc1 hy hn
      clear hz0
      by_cases hz : z < f
      · go_wp2
        refine ⟨⟨m - 1, c' - 1, _, ys, rfl, by omega, by omega, H.out.tail hm hmc, (hy.out hz).symm.trans HE.out⟩, by show m - 1 < m; omega⟩
      · go_wp2
        go_ret
        exact ⟨_, _, _, rfl, hmc, hcm', by rw [← HE.out, hn.out hz]; exact H.out, rfl⟩
    · obtain rfl : m = 0 := by omega
      go_wp2
      go_ret
      have e : ys = [] := List.eq_nil_of_length_eq_zero HL.out
      subst e
      exact ⟨_, _, _, rfl, hmc, hcm', by rw [← HE.out]; exact H.out, rfl⟩
/-- A slice of blocks that comes back; its row is new, the entries lie where they lay. -/
def NewB (ys : List BlkM) (w : World) (e : Ending) (w' : World) : Prop :=
  ∃ A m c, e = .returned (.slice A m c) ∧ m ≤ c ∧ (c ≤ maxLen ∧ ∀ ad, A = some ad → w.heap.size ≤ ad.block) ∧ BRead w' w'.heap.size A m ys ∧ Below w.heap.size w w'
theorem newB_of_own {w W w1 : World} {base : Nat} {e : TypeId} {v : Value} {n : Nat} {ys : List BlkM} {xs : List Value} {row : Option Nat} (hb : Below w.heap.size w W) (hown : w1.ownsRow base e 5 v n xs) (hx : xs = bc ys)
    (hE : ∀ b ∈ ys, ERead w w.heap.size b.adr b.en b.es ∧ b.en ≤ b.ec ∧ b.ec ≤ maxLen) (hg : W.grownBy w1 row) (hr : ∀ k, row = some k → w.heap.size ≤ k) (hbase : w.heap.size ≤ base := by first | exact Nat.le_refl _ | omega | (simp; omega)) : NewB ys w (.returned v) w1 := by
  obtain ⟨A, c, rfl, h1, h2, h3⟩ := own_form hown
  subst hx
  have hB := hb.grown hg hb.size hr
  exact ⟨A, n, c, rfl, h1, ⟨h2, fun ad h => Nat.le_trans hbase (by subst h; exact own_block_ge hown ad.block rfl)⟩, ⟨h3, fun b hx => ⟨((hE b hx).1.below hB).more hB.size, (hE b hx).2⟩⟩, hB⟩
set_option maxHeartbeats 2000000 in
theorem Expire_b (A : Option Addr) (n c : Nat) (xs : List BlkM) (f : Int) (w : World) (h1 : BRead w w.heap.size A n xs) (hnc : n ≤ c) (hcm : c ≤ maxLen) (hsmall : n ≤ 65536) :
    Calls Try.prog 29 #[.slice A n c, .int .i64 f] w (NewB (expireB f xs) w) := by
  have hcm9 : c ≤ 9223372036854775807 := hcm
  clear hcm
  have H1 := Lib.hid h1
  have HEn := Lib.hid (fun b (hb : b ∈ expireB f xs) => h1.2 b ((List.dropWhile_sublist _).mem hb))
  clear h1
  obtain ⟨i0, hi0, hz0, hz1, hz2⟩ := info_parts block_info
  have HI := Lib.hid hi0
  have HZ0 := Lib.hid hz0
  have HZ1 := Lib.hid hz1
  have HZ2 := Lib.hid hz2
  clear hi0 hz0 hz1 hz2
  go_enter Try.func29, Try.ntmps29
  go_wp2
  go_loop [0] (fun s => ∃ (m c' : Nat) (A' : Option Addr) (ys : List BlkM), s = .slice A' m c' ∧ m ≤ n ∧ m ≤ c' ∧ c' ≤ 9223372036854775807 ∧ Hid (BRead w w.heap.size A' m ys) ∧ Hid (expireB f ys = expireB f xs)) (fun s => match s with | .slice _ m _ => m | _ => 0)
  case atStart => exact ⟨n, c, A, xs, rfl, Nat.le_refl _, hnc, hcm9, H1, (rfl : expireB f xs = expireB f xs)⟩
  case round =>
    obtain ⟨m, c', A', ys, rfl, hmn, hmc, hcm', H, HE⟩ := hrel
    have HL := Lib.hid H.out.len
    have HA : Hid (∀ b, Reads (w.alloc b) (w.alloc b).heap.size 5 A' m (bc ys)) := fun b => (H.out.1.alloc (Nat.le_refl _) b).more (by simp)
    by_cases hm : 0 < m
    · cases ys with
      | nil => have := HL.out; simp at this; omega
      | cons b ys =>
      obtain ⟨ad, rfl, _, hc1⟩ := H.out.first
      have hy := Lib.hid (expB_yes (f := f) (b := b) (xs := ys))
      have hn := Lib.hid (expB_no (f := f) (b := b) (xs := ys))
      obtain ⟨z, hz0⟩ : ∃ z, b.t = z := ⟨_, rfl⟩
      rw [hz0] at hc1 hy hn
      clear hz0
      by_cases hz : z < f
      · go_wp2
        refine ⟨⟨m - 1, c' - 1, _, ys, rfl, by omega, by omega, by omega, H.out.tail hm hmc, (hy.out hz).symm.trans HE.out⟩, by show m - 1 < m; omega⟩
      · go_wp2_with (at_builtin; refine wpList_append_any _ rfl (.tmp 18) (.tmp 19) 22 rfl w.heap.size 64 i0 (.agg #[.int .i64 0, .int .i64 0, .int .i64 0, .int .i64 0, .slice none 0 0]) 5 56 Try.underlying22 HI.out HZ0.out HZ1.out HZ2.out rfl (by omega) (.slice (some ⟨w.heap.size, 0, none⟩) 0 0) 0 [] rfl (own_empty w 64) _ (some ad) m c' (bc (b :: ys)) rfl (HA.out _) (bc_oneCell _) (by unfold maxLen; omega) (by omega) (by simp) ?_; intro v1 w1 hown1 hg1 hat1)
        go_ret
        exact newB_of_own ((Below.refl _ _).alloc (Nat.le_refl _) _) hown1 (by rw [← HE.out, hn.out hz]; rfl) HEn.out hg1 (by simp [Value.ownBlock])
    · obtain rfl : m = 0 := by omega
      have e : ys = [] := List.eq_nil_of_length_eq_zero HL.out
      subst e
      go_wp2_with (at_builtin; refine wpList_append_any _ rfl (.tmp 18) (.tmp 19) 22 rfl w.heap.size 64 i0 (.agg #[.int .i64 0, .int .i64 0, .int .i64 0, .int .i64 0, .slice none 0 0]) 5 56 Try.underlying22 HI.out HZ0.out HZ1.out HZ2.out rfl (by omega) (.slice (some ⟨w.heap.size, 0, none⟩) 0 0) 0 [] rfl (own_empty w 64) _ A' 0 c' (bc []) rfl (HA.out _) (bc_oneCell _) (by unfold maxLen; omega) (by omega) (by simp) ?_; intro v1 w1 hown1 hg1 hat1)
      go_ret
      exact newB_of_own ((Below.refl _ _).alloc (Nat.le_refl _) _) hown1 (by rw [← HE.out]; rfl) HEn.out hg1 (by simp [Value.ownBlock])
end Go.Proofs.Ytjapjfcennemeaa.blk
