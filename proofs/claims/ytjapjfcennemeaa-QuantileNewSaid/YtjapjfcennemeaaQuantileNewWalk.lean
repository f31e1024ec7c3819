/- The walk of the law QuantileNew: it returns true and leaves what was there. -/
import Derived.Test.YtjapjfcennemeaaRows
import Derived.Test.YtjapjfcennemeaaMgTri
import Derived.Test.YtjapjfcennemeaaMgQt4
import Derived.WalkKit
import Derived.ProofKit
import Derived.OpenShut
import Derived.ShutString
namespace Go.Proofs.Ytjapjfcennemeaa.quantileNew
open Go.ChangeShapes Go.WideShapes Go.ChangeAt Go.RowKit
open Go.ChangeMaps (open_string shut_string)
set_option linter.unusedVariables false

set_option maxHeartbeats 4000000 in
theorem walk (a0 : Int) (a1 : Int) (a2 : Int) (a3 : Int) (w : World) (iw0 : opn.Rng a0) (iw1 : opn.Rng a1) (iw2 : opn.Rng a2) (iw3 : opn.Rng a3) :
    Calls Try.prog 9 #[.int .i64 a0, .int .i64 a1, .int .i64 a2, .int .i64 a3] w fun e w' => e = .returned (.bool true) ∧ Below w.heap.size w w' := by
  have h1 := Lib.hid (fun W => qtl.NewQ_any a0 a1 a2 a3 W)
  have h2 := Lib.hid (fun W => qtl.NewQR_any a0 a1 a2 a3 W)
  have h5 := Lib.hid (fun W => qtl.awake23_any W)
  have h6 := Lib.hid (fun W => qtl.SizeQ_any a1 a2 iw2.2 W)
  have h7 := Lib.hid (fun W => qtl.SizeQR_any a1 a2 iw2.2 W)
  have h8 := Lib.hid (fun W => qtl.MostQ_any a1 a2 iw2.2 W)
  have h9 := Lib.hid (fun W => qtl.MostQR_any a1 a2 iw2.2 W)
  clear iw0 iw1 iw2 iw3
  generalize qtl.goodC a0 a1 a2 a3 = g at *
  generalize qtl.kp g a0 = v at *
  generalize qtl.kp g a1 = k at *
  generalize qtl.kp g a2 = p at *
  generalize qtl.kp g a3 = o at *
  generalize (if g = true then (0 : Int) else 1) = er at *
  generalize qtl.sizeQ a1 a2 = sz at *
  generalize qtl.mostQ a1 a2 = mo at *
  have q1 : (er == er) = true := by simp
  have q2 : (sz == sz) = true := by simp
  have q3 : (mo == mo) = true := by simp
  have h3 := Lib.hid (fun W => qtl.SameQ_any v k p o none none 0 0 0 0 [] [] W qtl.BRead.nil_ qtl.BRead.nil_ rfl (by omega))
  go_enter Try.func9, Try.ntmps9
  go_wp2_with fail
  (with_reducible refine (h1.out _).mono ?_)
  rintro e w1 ⟨rfl, hb1⟩
  obtain ⟨s1, hs1⟩ : ∃ s, w1.heap.size = s := ⟨_, rfl⟩
  go_wp2_with fail
  obtain ⟨W1, hW, K1, B1, z1⟩ := gro.name_world (gro.Bx.nil_.new (W := w1) (t := 70) (c := #[Value.int IntKind.i64 v, Value.int IntKind.i64 k, Value.int IntKind.i64 p, Value.int IntKind.i64 o, Value.slice none 0 0]) hs1) (hb1.alloc hb1.size _) (s := 0) (by omega)
  rw [hW]
  clear hW hb1 hs1
  have KK := Lib.hid K1
  have BB := Lib.hid B1
  have R := K1.rules
  simp only [gro.Rules] at R
  clear K1 B1
  (with_reducible refine (h2.out _).mono ?_)
  rintro e wv ⟨rfl, hbv⟩; replace BB := Lib.hid (BB.out.trans (hbv.mono BB.out.size)); replace KK := Lib.hid (KK.out.below hbv); replace R := KK.out.rules; simp only [gro.Rules] at R; clear hbv
  obtain ⟨s5, hs5⟩ : ∃ s, wv.heap.size = s := ⟨_, rfl⟩
  replace KK := Lib.hid (KK.out.new (t := 70) (c := #[Value.int IntKind.i64 v, Value.int IntKind.i64 k, Value.int IntKind.i64 p, Value.int IntKind.i64 o, Value.slice none 0 0]) hs5)
  replace BB := Lib.hid (BB.out.alloc BB.out.size (.cells #[Value.int IntKind.i64 v, Value.int IntKind.i64 k, Value.int IntKind.i64 p, Value.int IntKind.i64 o, Value.slice none 0 0] 70))
  replace R := KK.out.rules
  simp only [gro.Rules] at R
  go_wp2_with fail
  (with_reducible refine (h3.out _).mono ?_)
  rintro e wv ⟨rfl, hbv⟩; replace BB := Lib.hid (BB.out.trans (hbv.mono BB.out.size)); replace KK := Lib.hid (KK.out.below hbv); replace R := KK.out.rules; simp only [gro.Rules] at R; clear hbv
  go_wp2_with (first | (go_at_call 47; refine (h6.out _).mono ?_; rintro e w' ⟨rfl, rfl⟩) | (go_at_call 48; refine (h7.out _).mono ?_; rintro e w' ⟨rfl, rfl⟩) | (go_at_call 49; refine (h8.out _).mono ?_; rintro e w' ⟨rfl, rfl⟩) | (go_at_call 50; refine (h9.out _).mono ?_; rintro e w' ⟨rfl, rfl⟩) | (go_at_call 51; refine (h5.out _).mono ?_; rintro e w9 ⟨rfl, hb9⟩; replace BB := Lib.hid (BB.out.trans (hb9.mono BB.out.size)); clear hb9))
  go_ret
  exact ⟨rfl, BB.out⟩
end Go.Proofs.Ytjapjfcennemeaa.quantileNew
