/- Contracts of sort.Search, clock.Expired and of the reference's Expired. -/
import Derived.Test.YtgbikoocmaifiaaClk
import Derived.Test.YtgbikoocmaifiaaMem
import Derived.Deep.LoopGhost
import Derived.LoopTactic
import Derived.Deep.LoopGhost
namespace Go.Proofs.Ytgbikoocmaifiaa.clk
open Go.RowKit Go.Proofs.Ytgbikoocmaifiaa.mem
set_option linter.unusedVariables false

def SearchOk (n : Nat) (p : Nat → Bool) (w : World) (e : Ending) (w' : World) : Prop :=
  ∃ k : Nat, e = .returned (.int .i64 k) ∧ k ≤ n ∧ (∀ t, t < k → p t = false) ∧ (∀ t, k ≤ t → t < n → p t = true) ∧ ∃ q, w' = w.drewN q

set_option maxHeartbeats 1000000 in
theorem search_any (g : Nat) (cb : Array Value) (n : Nat) (p : Nat → Bool) (w : World) (eg : ∀ args w, (callFunc g args).run Try.prog w = .ok (.enter g args) w) (hsz : n < 4611686018427387904)
    (hf : ∀ (m : Nat) (i : Nat), i < n → Calls Try.prog g (#[.int .i64 i] ++ cb) (w.drewN m) fun e w' => e = .returned (.bool (p i)) ∧ ∃ q, w' = (w.drewN m).drewN q)
    (hmono : ∀ a b, a ≤ b → b < n → p a = true → p b = true) :
    Calls Try.prog 20 #[.int .i64 n, .func (.func g) #[] cb] w (SearchOk n p w) := by
  have HF := Lib.hid hf
  have M := Lib.hid hmono
  clear hf hmono
  go_enter Try.func20, Try.ntmps20
  go_wp2
  go_loopg [5, 6] n (fun kx s5 s6 wr => ∃ (lo hi q : Nat), s5 = .int .i64 lo ∧ s6 = .int .i64 hi ∧ lo ≤ hi ∧ hi ≤ n ∧ hi - lo ≤ kx ∧ wr = w.drewN q ∧
    Hid ((∀ t, t < lo → p t = false) ∧ (∀ t, hi ≤ t → t < n → p t = true)))
  case atStart => exact ⟨0, n, 0, rfl, rfl, Nat.zero_le _, Nat.le_refl _, by omega, rfl, (⟨fun t ht => absurd ht (Nat.not_lt_zero _), fun t h1 h2 => by omega⟩ : (∀ t, t < 0 → p t = false) ∧ (∀ t, n ≤ t → t < n → p t = true))⟩
  case round =>
    obtain ⟨lo, hi, q, rfl, rfl, hlh, hin, hg, rfl, I⟩ := hrel
    by_cases hlt : lo < hi
    · have hc := HF.out q ((lo + hi) / 2) (by omega)
      rw [show (((lo + hi) / 2 : Nat) : Int) = ((lo : Int) + (hi : Int)) / 2 by omega] at hc
      cases hp : p ((lo + hi) / 2) <;> rw [hp] at hc
      · have HP := Lib.hid hp
        clear hp
        go_wp2_with ((with_reducible refine hc.mono ?_); rintro e w' ⟨rfl, nq, rfl⟩)
        go_roundg (hi - ((lo + hi) / 2 + 1))
        case measure => omega
        case rel =>
          have I2 : Hid ((∀ t, t < (lo + hi) / 2 + 1 → p t = false) ∧ (∀ t, hi ≤ t → t < n → p t = true)) := ⟨fun t ht => (by
            cases h : p t with
            | false => rfl
            | true => have := M.out t ((lo + hi) / 2) (by omega) (by omega) h; rw [HP.out] at this; cases this), I.out.2⟩
          exact ⟨(lo + hi) / 2 + 1, hi, q + nq, by rw [show ((lo : Int) + (hi : Int)) / 2 + 1 = (((lo + hi) / 2 + 1 : Nat) : Int) by omega], rfl, by omega, hin, Nat.le_refl _, rfl, I2⟩
      · have HP := Lib.hid hp
        clear hp
        go_wp2_with ((with_reducible refine hc.mono ?_); rintro e w' ⟨rfl, nq, rfl⟩)
        go_roundg ((lo + hi) / 2 - lo)
        case measure => omega
        case rel =>
          have I2 : Hid ((∀ t, t < lo → p t = false) ∧ (∀ t, (lo + hi) / 2 ≤ t → t < n → p t = true)) := ⟨I.out.1, fun t ht htn => M.out ((lo + hi) / 2) t ht htn HP.out⟩
          exact ⟨lo, (lo + hi) / 2, q + nq, rfl, by rw [show ((lo : Int) + (hi : Int)) / 2 = (((lo + hi) / 2 : Nat) : Int) by omega], by omega, by omega, Nat.le_refl _, rfl, I2⟩
    · obtain rfl : hi = lo := by omega
      go_wp2
      go_ret
      exact ⟨hi, rfl, hin, I.out.1, I.out.2, q, rfl⟩

set_option maxHeartbeats 1000000 in
/-- The closure of clock.Expired. -/
theorem closure_any (pt pf : Addr) (A : Option Addr) (n c : Nat) (x : Int) (zs : List Int) (w : World) (B : Nat) (i : Nat) (hi : i < n) (hn : n < 4611686018427387904)
    (h1 : w.cell? pt = some (.slice A n c)) (h2 : w.cell? pf = some (.int .i64 x)) (hr : Reads w B 1 A n (zs.map (Value.int .i64))) :
    Calls Try.prog 21 #[.int .i64 i, .pointer (some pt), .pointer (some pf)] w fun e w' => e = .returned (.bool (decide (x ≤ zs[i]?.getD 0))) ∧ ∃ q, w' = w.drewN q := by
  obtain ⟨ad, u, rfl, _, hu, hc⟩ := hr.at1 hi
  have hz : u = .int .i64 (zs[i]?.getD 0) := by
    rw [List.getElem?_map] at hu
    cases h : zs[i]? with
    | none => rw [h] at hu; simp at hu
    | some z => rw [h] at hu; simp at hu; simp [← hu]
  subst hz
  clear hu hr
  go_enter Try.func21, Try.ntmps21
  go_wp2
  go_quiet (fail)
  go_wp2
  go_ret
  exact ⟨rfl, _, rfl⟩

def okTo (zs : List Int) (now : Int) (k : Nat) : Prop := ∀ i, i < k → 0 ≤ zs[i]?.getD 0 ∧ zs[i]?.getD 0 ≤ now ∧ (0 < i → zs[i - 1]?.getD 0 ≤ zs[i]?.getD 0)
def ExpIs (zs : List Int) (now v : Int) (r : Int) : Prop :=
  (firstI now v < 0 ∧ r = -1) ∨ (0 ≤ firstI now v ∧ ¬ okTo zs now zs.length ∧ r = -1) ∨
  (0 ≤ firstI now v ∧ okTo zs now zs.length ∧ ∃ k : Nat, r = k ∧ k ≤ zs.length ∧ (∀ t, t < k → zs[t]?.getD 0 < firstI now v) ∧ (∀ t, k ≤ t → t < zs.length → firstI now v ≤ zs[t]?.getD 0))

theorem reads_at {w : World} {B n i : Nat} {A : Option Addr} {zs : List Int} (hr : Reads w B 1 A n (zs.map (Value.int .i64))) (hi : i < n) :
    ∃ ad, A = some ad ∧ ad.block < B ∧ w.cell? (ad.add i) = some (.int .i64 (zs[i]?.getD 0)) := by
  obtain ⟨ad, u, rfl, hb, hu, hc⟩ := hr.at1 hi
  refine ⟨ad, rfl, hb, ?_⟩
  rw [hc]
  rw [List.getElem?_map] at hu
  cases h : zs[i]? with
  | none => rw [h] at hu; simp at hu
  | some z => rw [h] at hu; simp at hu; simp [← hu]

def ExpOk (zs : List Int) (now v : Int) (w : World) (e : Ending) (w' : World) : Prop :=
  ∃ r : Int, e = .returned (.int .i64 r) ∧ ExpIs zs now v r ∧ Below w.heap.size w w'

set_option maxHeartbeats 2000000 in
theorem expired_any (A : Option Addr) (n c : Nat) (zs : List Int) (now v : Int) (w : World) (hzn : zs.length = n) (hn : n < 4611686018427387904)
    (hr : Reads w w.heap.size 1 A n (zs.map (Value.int .i64))) :
    Calls Try.prog 17 #[.slice A n c, .int .i64 now, .int .i64 v] w (ExpOk zs now v w) := by
  have HF := Lib.hid (first_any now v)
  have HZ := Lib.hid hzn
  clear hzn
  have HP : Hid (∀ r w', Below w.heap.size w w' → ExpIs zs now v r → ExpOk zs now v w (.returned (.int .i64 r)) w') := fun r w' hb h => ⟨r, rfl, h, hb⟩
  have HX : Hid (∀ r, ExpIs zs now v r ↔ ExpIs zs now v r) := fun _ => Iff.rfl
  generalize hx : firstI now v = x at HF
  have HXX := Lib.hid hx
  clear hx
  by_cases hneg : x < 0
  · go_enter Try.func17, Try.ntmps17
    go_wp2_with (go_at_call 10; refine (HF.out _).mono ?_; rintro e w' ⟨rfl, rfl⟩)
    go_ret
    exact HP.out _ _ (((Below.refl _ _).alloc (Nat.le_refl _) _).alloc (by simp) _) (.inl ⟨by rw [HXX.out]; exact hneg, rfl⟩)
  · go_enter Try.func17, Try.ntmps17
    go_wp2_with (go_at_call 10; refine (HF.out _).mono ?_; rintro e w' ⟨rfl, rfl⟩)
    have hr0 : Reads ((w.alloc (Obj.cells #[Value.slice A n c] 32)).alloc (Obj.cells #[Value.int IntKind.i64 x] 2)) w.heap.size 1 A n (zs.map (Value.int .i64)) := (hr.alloc (Nat.le_refl _) _).alloc (by simp) _
    have hb0 : Below w.heap.size w ((w.alloc (Obj.cells #[Value.slice A n c] 32)).alloc (Obj.cells #[Value.int IntKind.i64 x] 2)) := ((Below.refl _ _).alloc (Nat.le_refl _) _).alloc (by simp) _
    have c3 : ((w.alloc (Obj.cells #[Value.slice A n c] 32)).alloc (Obj.cells #[Value.int IntKind.i64 x] 2)).cell? ⟨w.heap.size, 0, none⟩ = some (Value.slice A n c) := by go_simp
    have c7 : ((w.alloc (Obj.cells #[Value.slice A n c] 32)).alloc (Obj.cells #[Value.int IntKind.i64 x] 2)).cell? ⟨w.heap.size + 1, 0, none⟩ = some (Value.int .i64 x) := by go_simp
    generalize (w.alloc (Obj.cells #[Value.slice A n c] 32)).alloc (Obj.cells #[Value.int IntKind.i64 x] 2) = W0 at *
    have HR := Lib.hid hr0
    clear hr0 hr
    go_loop [17] (fun s => ∃ k : Nat, k ≤ n ∧ s = .int .i64 k ∧ Hid (okTo zs now k)) (fun s => n - (intOf s).toNat)
    case atStart => exact ⟨0, Nat.zero_le _, rfl, (fun i hi => absurd hi (Nat.not_lt_zero _) : okTo zs now 0)⟩
    case round =>
      obtain ⟨k, hk, rfl, hok⟩ := hrel
      by_cases hlt : k < n
      · obtain ⟨ad, rfl, hb1, hc1⟩ := reads_at HR.out hlt
        have hc2 : 0 < k → W0.cell? (ad.add (k - 1)) = some (.int .i64 (zs[k - 1]?.getD 0)) := fun h => by
          obtain ⟨ad', e, _, hc⟩ := reads_at HR.out (show k - 1 < n by omega)
          injection e with e; subst e; exact hc
        have HT : Hid (0 ≤ zs[k]?.getD 0 → zs[k]?.getD 0 ≤ now → (0 < k → zs[k - 1]?.getD 0 ≤ zs[k]?.getD 0) → okTo zs now (k + 1)) := fun h1 h2 h3 i hi => by
          rcases Nat.lt_or_ge i k with h | h
          · exact hok.out i h
          · obtain rfl : i = k := by omega
            exact ⟨h1, h2, h3⟩
        have HN : Hid (¬ (0 ≤ zs[k]?.getD 0 ∧ zs[k]?.getD 0 ≤ now ∧ (0 < k → zs[k - 1]?.getD 0 ≤ zs[k]?.getD 0)) → ¬ okTo zs now zs.length) := fun h h' => h (h' k (by rw [HZ.out]; exact hlt))
        clear hok
        generalize zs[k]?.getD 0 = z at *
        by_cases h0 : 0 < k
        · have hc3 := hc2 h0
          clear hc2
          generalize zs[k - 1]?.getD 0 = y at *
          go_wp2
          all_goals first
            | (go_ret; exact HP.out _ _ hb0 (.inr (.inl ⟨by rw [HXX.out]; omega, HN.out (by omega), rfl⟩)))
            | (refine ⟨⟨k + 1, by omega, by go_num, ?_⟩, by simp [intOf]; omega⟩; exact HT.out (by omega) (by omega) (by omega))
        · obtain rfl : k = 0 := by omega
          clear hc2
          rw [show ad.add 0 = ad from by simp [Addr.add]] at hc1
          go_wp2
          all_goals first
            | (go_ret; exact HP.out _ _ hb0 (.inr (.inl ⟨by rw [HXX.out]; omega, HN.out (by omega), rfl⟩)))
            | (refine ⟨⟨0 + 1, by omega, by go_num, ?_⟩, by simp [intOf]; omega⟩; exact HT.out (by omega) (by omega) (by omega))
      · obtain rfl : k = n := by omega
        have hcl := fun (m : Nat) (i : Nat) (hi : i < k) => closure_any ⟨w.heap.size, 0, none⟩ ⟨w.heap.size + 1, 0, none⟩ A k c x zs (W0.drewN m) w.heap.size i hi hn c3 c7 (HR.out.drewN m)
        have hmono : ∀ a b, a ≤ b → b < k → decide (x ≤ zs[a]?.getD 0) = true → decide (x ≤ zs[b]?.getD 0) = true := by
          intro a b hab hb
          simp only [decide_eq_true_eq]
          induction b with
          | zero => obtain rfl : a = 0 := by omega
                    exact id
          | succ b ih =>
            intro h
            rcases Nat.lt_or_ge b a with h1 | h1
            · obtain rfl : a = b + 1 := by omega
              exact h
            · have := ih (by omega) (by omega) h
              have h2 := (hok.out (b + 1) hb).2.2 (by omega)
              simp at h2
              omega
        have HS := Lib.hid (search_any 21 #[.pointer (some ⟨w.heap.size, 0, none⟩), .pointer (some ⟨w.heap.size + 1, 0, none⟩)] k (fun i => decide (x ≤ zs[i]?.getD 0)) W0 (enters_of Try.func21 (by kernel_rfl) rfl) hn hcl hmono)
        clear hcl hmono
        go_wp2_with (go_at_call 20; refine (HS.out).mono ?_; rintro e w' ⟨r, rfl, hrk, hr1, hr2, q, rfl⟩)
        go_ret
        exact HP.out _ _ (below_drewN hb0 _) (.inr (.inr ⟨by rw [HXX.out]; omega, by rw [HZ.out]; exact hok.out, r, rfl, by rw [HZ.out]; exact hrk, fun t ht => by have := hr1 t ht; rw [HXX.out]; simpa using this, fun t h1 h2 => by have := hr2 t h1 (by rw [HZ.out] at h2; exact h2); rw [HXX.out]; simpa using this⟩))
end Go.Proofs.Ytgbikoocmaifiaa.clk
