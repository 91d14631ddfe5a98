/- The walks of math.Copysign, Inf, Abs, IsNaN, IsInf. Conditions: none beyond what each says. -/
import Derived.Test.YteophaobcebppaaGreatDoorNatA
import Derived.Test.YteophaobcebppaaGreatDoorBit
import Derived.Test.YteophaobcebppaaGreatDoorFlo2
import Derived.Laws.Externs
set_option linter.unusedSimpArgs false
namespace Go.Proofs.YteophaobcebppaaGreatDoor.dg
open Go.RowKit
set_option linter.unusedVariables false

@[go_sem] theorem fbits_call (x : Nat) (w : World) : (callFunc 11 #[.float .f64 x]).run Tryz.prog w = .ok (.value (.int .u64 (x : Int))) w := by
  rw [run_callFunc_extern Tryz.func11 (by kernel_rfl) (by kernel_rfl) (by kernel_rfl) (e := Extern.MathFloatBits.float64bits) (by kernel_rfl)]
  rfl
@[go_sem] theorem frombits_call (n : Int) (w : World) : (callFunc 15 #[.int .u64 n]).run Tryz.prog w = .ok (.value (.float .f64 n.toNat)) w := by
  rw [run_callFunc_extern Tryz.func15 (by kernel_rfl) (by kernel_rfl) (by kernel_rfl) (e := Extern.MathFloatBits.float64frombits) (by kernel_rfl)]
  rfl

theorem ret_f64 {a b : Nat} (h : a = b) : Ending.returned (.float .f64 a) = .returned (.float .f64 b) := by rw [h]

set_option maxRecDepth 100000 in
theorem copysign_any (x y : Nat) (w : World) (hx : x < B64) (hy : y < B64) :
    Calls Tryz.prog 26 #[.float .f64 x, .float .f64 y] w fun e w' => e = .returned (.float .f64 (2 ^ 63 * (y / 2 ^ 63) + x % 2 ^ 63)) ∧ w = w' := by
  go_enter Tryz.func26, Tryz.ntmps26
  go_wp2
  go_ret
  refine ⟨ret_f64 ?_, rfl⟩
  have h1 : y / 2 ^ 63 ≤ 1 := by rw [B64_def] at hy; omega
  have h2 : x % 2 ^ 63 < 2 ^ 63 := Nat.mod_lt _ (by decide)
  rw [andNot_top x hx, and_top y hy, or_hi 63 _ _ h2 (by rw [B64_pow]; omega) (by rw [B64_pow]; omega), Int.toNat_natCast]

set_option maxRecDepth 100000 in
theorem abs_any (x : Nat) (w : World) (hx : x < B64) :
    Calls Tryz.prog 22 #[.float .f64 x] w fun e w' => e = .returned (.float .f64 (x % 2 ^ 63)) ∧ w = w' := by
  go_enter Tryz.func22, Tryz.ntmps22
  go_wp2
  go_ret
  refine ⟨ret_f64 ?_, rfl⟩
  rw [andNot_top x hx, Int.toNat_natCast]

theorem inf_pos (w : World) : Calls Tryz.prog 54 #[.int .i64 1] w fun e w' => e = .returned (.float .f64 INF) ∧ w = w' := by
  go_enter Tryz.func54, Tryz.ntmps54
  go_wp2
  go_ret
  exact ⟨ret_f64 (by decide +kernel), rfl⟩

theorem ne_self (x : Nat) (hx : x < B64) : (FloatKind.f64.format.order x x != some Ordering.eq) = isNaN x := by
  show (Ieee.double.order x x != some Ordering.eq) = isNaN x
  cases h : isNaN x
  · rw [order_key hx hx h h, cmp_eq rfl]; rfl
  · rw [order_nan_left hx h]; rfl

theorem isnan_any (x : Nat) (w : World) (hx : x < B64) :
    Calls Tryz.prog 109 #[.float .f64 x] w fun e w' => e = .returned (.bool (isNaN x)) ∧ w = w' := by
  go_enter Tryz.func109, Tryz.ntmps109
  go_wp2
  go_ret
  exact ⟨by rw [← ne_self x hx]; rfl, rfl⟩

/-- is a word an infinity? -/
def isInfW (x : Nat) : Bool := decide (x % 2 ^ 63 = INF)

theorem rung_order {a b : Nat} (ha : a ≤ INF) (hb : b ≤ INF) : FloatKind.f64.format.order a b = some (compare (a : Int) (b : Int)) := by
  have h1 : a < B64 := by have := INF_lt; rw [B64_pow]; omega
  have h2 : b < B64 := by have := INF_lt; rw [B64_pow]; omega
  have h3 : a % 2 ^ 63 = a := Nat.mod_eq_of_lt (by have := INF_lt; omega)
  have h4 : b % 2 ^ 63 = b := Nat.mod_eq_of_lt (by have := INF_lt; omega)
  show Ieee.double.order a b = _
  rw [order_key h1 h2 (by unfold isNaN; rw [h3]; simpa using ha) (by unfold isNaN; rw [h4]; simpa using hb)]
  unfold key
  rw [if_pos (by have := INF_lt; omega), if_pos (by have := INF_lt; omega)]

theorem gt_top (x : Nat) (hx : x < B64) : (FloatKind.f64.format.order (x % 9223372036854775808) 9218868437227405311 == some Ordering.gt) = isInfW x := by
  have e : x % 9223372036854775808 = x % 2 ^ 63 := rfl
  rw [e]
  have hI := INF_val
  unfold isInfW
  by_cases h : INF < x % 2 ^ 63
  · have hn : FloatKind.f64.format.order (x % 2 ^ 63) 9218868437227405311 = none := by
      show Ieee.double.order _ _ = _
      refine order_nan_left (by rw [B64_pow]; omega) ?_
      unfold isNaN
      rw [Nat.mod_mod]; simpa using h
    have : ¬ x % 2 ^ 63 = INF := by omega
    rw [hn, decide_eq_false this]; rfl
  · rw [rung_order (by omega) (by omega)]
    by_cases h2 : x % 2 ^ 63 = INF
    · rw [decide_eq_true h2, cmp_gt (by omega)]; rfl
    · rw [decide_eq_false h2]
      by_cases h3 : x % 2 ^ 63 = 9218868437227405311
      · rw [cmp_eq (by omega)]; rfl
      · rw [cmp_lt (by omega)]; rfl

theorem isinf_any (x : Nat) (w : World) (hx : x < B64) :
    Calls Tryz.prog 110 #[.float .f64 x, .int .i64 0] w fun e w' => e = .returned (.bool (isInfW x)) ∧ w = w' := by
  go_enter Tryz.func110, Tryz.ntmps110
  go_wp2_with (go_at_call 22; refine (abs_any _ _ hx).mono ?_; rintro e w' ⟨rfl, rfl⟩)
  go_ret
  exact ⟨by rw [← gt_top x hx]; rfl, rfl⟩

end Go.Proofs.YteophaobcebppaaGreatDoor.dg
