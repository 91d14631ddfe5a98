/- The walk of digits.below: is a quotient below a power of ten? Conditions: what it says. -/
import Derived.Test.YteophaobcebppaaGreatDoorPart
namespace Go.Proofs.YteophaobcebppaaGreatDoor.dg
open Go.RowKit
set_option linter.unusedVariables false

/-- is A / B below ten to n? -/
def lt10 (A B : Nat) (n : Int) : Bool := decide (A * 10 ^ (-n).toNat < B * 10 ^ n.toNat)

theorem lt10_pos {A B : Nat} {n : Int} (h : 0 ≤ n) : lt10 A B n = decide (A < B * 10 ^ n.toNat) := by
  unfold lt10
  rw [show (-n).toNat = 0 by omega, Nat.pow_zero, Nat.mul_one]
theorem lt10_neg {A B : Nat} {n : Int} (h : n < 0) : lt10 A B n = decide (A * 10 ^ (-n).toNat < B) := by
  unfold lt10
  rw [show n.toNat = 0 by omega, Nat.pow_zero, Nat.mul_one]

theorem below_any (va vb : Value) (A B : Nat) (n : Int) (w : World) (ha : Rd64 w va (words A)) (hb : Rd64 w vb (words B)) (hlA : (words A).length ≤ 2000) (hlB : (words B).length ≤ 2000) (h0 : -20000 ≤ n) (h1 : n ≤ 20000) :
    Calls Tryz.prog 37 #[va, vb, .int .i64 n] w fun en w' => en = .returned (.bool (lt10 A B n)) ∧ Below w.heap.size w w' := by
  have HA := Lib.hid ha; have HB := Lib.hid hb
  clear ha hb
  by_cases hn : 0 ≤ n
  · rw [lt10_pos hn]
    have ht := words_ten n.toNat
    go_enter Tryz.func37, Tryz.ntmps37
    go_wp2_with fail
    refine (ten_any n _ hn (by omega)).mono ?_
    rintro en w1 ⟨v1, rfl, hv1, hb1⟩
    have HV1 := Lib.hid hv1; have HB1 := Lib.hid hb1; clear hv1 hb1
    go_wp2_with fail
    with_reducible refine (mul_any _ _ B (10 ^ n.toNat) _ (HB.out.below HB1.out) HV1.out (by omega)).mono ?_
    rintro en w2 ⟨v2, rfl, hv2, hb2⟩
    have HV2 := Lib.hid hv2; have HB2 := Lib.hid hb2; clear hv2 hb2
    have HB12 := Lib.hid (HB1.out.trans (HB2.out.mono HB1.out.size))
    go_wp2_with fail
    with_reducible refine (cmp_any _ _ A (B * 10 ^ n.toNat) _ (HA.out.below HB12.out) HV2.out).mono ?_
    rintro en w3 ⟨r, rfl, hst, nd, rfl⟩
    have HST := Lib.hid hst; clear hst
    go_wp2_with fail
    go_ret
    refine ⟨?_, below_drewN HB12.out nd⟩
    have : decide (r < 0) = decide (A < B * 10 ^ n.toNat) := decide_eq_decide.2 HST.out.1
    rw [this]; rfl
  · rw [lt10_neg (by omega)]
    have ht := words_ten (-n).toNat
    go_enter Tryz.func37, Tryz.ntmps37
    go_wp2_with fail
    refine (ten_any (-n) _ (by omega) (by omega)).mono ?_
    rintro en w1 ⟨v1, rfl, hv1, hb1⟩
    have HV1 := Lib.hid hv1; have HB1 := Lib.hid hb1; clear hv1 hb1
    go_wp2_with fail
    with_reducible refine (mul_any _ _ A (10 ^ (-n).toNat) _ (HA.out.below HB1.out) HV1.out (by omega)).mono ?_
    rintro en w2 ⟨v2, rfl, hv2, hb2⟩
    have HV2 := Lib.hid hv2; have HB2 := Lib.hid hb2; clear hv2 hb2
    have HB12 := Lib.hid (HB1.out.trans (HB2.out.mono HB1.out.size))
    go_wp2_with fail
    with_reducible refine (cmp_any _ _ (A * 10 ^ (-n).toNat) B _ HV2.out (HB.out.below HB12.out)).mono ?_
    rintro en w3 ⟨r, rfl, hst, nd, rfl⟩
    have HST := Lib.hid hst; clear hst
    go_wp2_with fail
    go_ret
    refine ⟨?_, below_drewN HB12.out nd⟩
    have : decide (r < 0) = decide (A * 10 ^ (-n).toNat < B) := decide_eq_decide.2 HST.out.1
    rw [this]; rfl

end Go.Proofs.YteophaobcebppaaGreatDoor.dg
