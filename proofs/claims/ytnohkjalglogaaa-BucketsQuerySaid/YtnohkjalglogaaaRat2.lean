/- Contracts of Floor, Ceil, Compare of rational numbers, in the code and in the reference; of the statements' awake. -/
import Derived.Test.YtnohkjalglogaaaRat
import Derived.Test.YtnohkjalglogaaaFloor
namespace Go.Proofs.Ytnohkjalglogaaa.wid
open Go.RowKit Go.Proofs.Ytnohkjalglogaaa.mem Go.Proofs.Ytnohkjalglogaaa.gro
set_option linter.unusedVariables false
def floorQ (n d : Int) : Int := if validQ n d = true then n / d else 0
def ceilQ (n d : Int) : Int := if validQ n d = true then -((-n) / d) else 0
def cmpQ (n d m e : Int) : Int := if validQ n d = true ∧ validQ m e = true then cmpZ (n * e) (m * d) else 0
set_option maxHeartbeats 2000000 in
theorem CompareQ_any (n d m e : Int) (hn : I64 n) (hd : I64 d) (hm : I64 m) (he : I64 e) (w : World) :
    Calls Try.prog 54 #[(Value.agg #[Value.int IntKind.i64 (n), Value.int IntKind.i64 ( d)]), (Value.agg #[Value.int IntKind.i64 (m), Value.int IntKind.i64 ( e)])] w fun x w' => x = .returned (.int .i64 (cmpQ n d m e)) ∧ Below w.heap.size w w' := by
  have HV := Lib.hid (fun W => Valid_any n d hn hd W)
  have HU := Lib.hid (fun W => Valid_any m e hm he W)
  have HX := Lib.hid (fun W => Cross_any n e m d hn he hm hd W)
  obtain ⟨v, hv⟩ : ∃ v, validQ n d = v := ⟨_, rfl⟩
  obtain ⟨u, hu⟩ : ∃ u, validQ m e = u := ⟨_, rfl⟩
  have hq : Hid (cmpQ n d m e = if v = true ∧ u = true then cmpZ (n * e) (m * d) else 0) := by rw [← hv, ← hu]; rfl
  rw [hv] at HV
  rw [hu] at HU
  generalize cmpZ (n * e) (m * d) = c at *
  clear hv hu hn hd hm he
  cases v <;> cases u <;> (
    go_enter Try.func54, Try.ntmps54
    go_wp2_with fail
    obtain ⟨W0, hW, hs0, K0, B0⟩ := start2 w 47 47 #[Value.int IntKind.i64 n, Value.int IntKind.i64 d] #[Value.int IntKind.i64 m, Value.int IntKind.i64 e]
    rw [hW]
    clear hW
    have KK := Lib.hid K0
    have BB := Lib.hid B0
    have R := K0.rules
    simp only [Rules] at R
    clear K0 B0
    go_wp2_with (first | (go_at_call 53; first | ((with_reducible refine (HV.out _).mono ?_); rintro e wv ⟨rfl, hbv⟩; replace BB := Lib.hid (BB.out.trans (hbv.mono BB.out.size)); replace KK := Lib.hid (KK.out.below hbv); replace R := KK.out.rules; simp only [gro.Rules] at R; clear hbv) | ((with_reducible refine (HU.out _).mono ?_); rintro e wv ⟨rfl, hbv⟩; replace BB := Lib.hid (BB.out.trans (hbv.mono BB.out.size)); replace KK := Lib.hid (KK.out.below hbv); replace R := KK.out.rules; simp only [gro.Rules] at R; clear hbv)) | (go_at_call 65; refine (HX.out _).mono ?_; rintro e wv ⟨rfl, hbv⟩; replace BB := Lib.hid (BB.out.trans (hbv.mono BB.out.size)); replace KK := Lib.hid (KK.out.below hbv); replace R := KK.out.rules; simp only [gro.Rules] at R; clear hbv))
    go_ret
    exact ⟨ret_int (by rw [hq.out]; simp), BB.out⟩)
end Go.Proofs.Ytnohkjalglogaaa.wid
