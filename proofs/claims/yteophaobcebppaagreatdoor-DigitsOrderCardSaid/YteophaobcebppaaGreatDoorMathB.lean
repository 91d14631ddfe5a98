/- The walks of math.normalize and Ldexp, of numbers that are not below 0. Conditions: what each says. -/
import Derived.Test.YteophaobcebppaaGreatDoorMathA
set_option linter.unusedSimpArgs false
namespace Go.Proofs.YteophaobcebppaaGreatDoor.dg
open Go.RowKit
set_option linter.unusedVariables false

theorem V_pow52 (k : Nat) : V ((k + 1) * 2 ^ 52) = 2 ^ 52 * 2 ^ k := by
  have e : (k + 1) * 2 ^ 52 = k * 2 ^ 52 + 2 ^ 52 := by rw [Nat.add_mul, Nat.one_mul]
  rw [e]
  exact V_rung k (2 ^ 52) (Nat.pow_le_pow_right (by omega) (by omega)) (fun _ => Nat.le_refl _)

theorem V_lt_top {r k : Nat} (h : V r < 2 ^ 52 * 2 ^ k) (hk : k ≤ TOP) : r < INF := by
  rw [← V_lt_iff, V_INF]
  exact Nat.lt_of_lt_of_le h (Nat.mul_le_mul_left _ (Nat.pow_le_pow_right (by omega) hk))

theorem norm_num {r : Nat} (h0 : 0 < r) (h : r < 2 ^ 52) : ∃ r2, floatBits .mul .f64 r 4841369599423283200 = some r2 ∧ 2 ^ 52 ≤ r2 ∧ r2 < INF ∧ V r2 = V r * 2 ^ 52 := by
  obtain ⟨r2, hr2⟩ := V_surj 52 r (by omega)
  have hV : V r = r := V_small (by omega)
  have hI := INF_val
  have hlt : r2 < INF := by
    refine V_lt_top (k := 52) ?_ (by unfold TOP; omega)
    rw [hr2]; exact Nat.mul_lt_mul_of_pos_right h (by decide)
  refine ⟨r2, ?_, ?_, hlt, by rw [hr2, hV]⟩
  · show Ieee.double.mul r 4841369599423283200 = some r2
    rw [mul_rung (by omega) (by omega)]
    refine congrArg some ?_
    obtain ⟨n, hn⟩ : ∃ n : Nat, n = 1074 := ⟨_, rfl⟩
    have e : V 4841369599423283200 = 2 ^ 52 * 2 ^ n := by
      rw [← V_pow52 n, show (n + 1) * 2 ^ 52 = 4841369599423283200 from by omega]
    rw [e, ← Nat.mul_assoc, rz_shift, hV, ← hr2]
    have : (-1074 + ((n : Nat) : Int)) = ((0 : Nat) : Int) := by omega
    rw [this, rz_nat, Nat.pow_zero, Nat.mul_one, rd_V', Nat.min_eq_left (by omega)]
  · rcases Nat.lt_or_ge r2 (2 ^ 52) with h1 | h1
    · have : V r2 = r2 := V_small (by omega)
      have : r * 2 ^ 52 ≥ 1 * 2 ^ 52 := Nat.mul_le_mul_right _ h0
      omega
    · exact h1

theorem normalize_any (r : Nat) (w : World) (h0 : 0 < r) (h1 : r < INF) :
    Calls Tryz.prog 128 #[.float .f64 r] w fun e w' => ∃ (r2 k : Nat), e = .returned (.tuple #[.float .f64 r2, .int .i64 (-(k : Int))]) ∧ k ≤ 52 ∧ 2 ^ 52 ≤ r2 ∧ r2 < INF ∧ V r2 = V r * 2 ^ k ∧ w = w' := by
  have hB : r < B64 := by have := INF_lt; rw [B64_pow]; omega
  have hm : r % 2 ^ 63 = r := Nat.mod_eq_of_lt (by have := INF_lt; omega)
  have hI := INF_val
  by_cases h : r < 2 ^ 52
  · obtain ⟨r2, hmul, h2, h3, h4⟩ := norm_num h0 h
    have ht : (FloatKind.f64.format.order r 4503599627370496 == some Ordering.lt) = true := by
      rw [rung_order (by omega) (by omega), cmp_lt (by omega)]; rfl
    have hrun := fun w => run_float_arith (P := Tryz.prog) w .mul 23 .f64 r 4841369599423283200 r2 hmul
    clear hmul
    have H4 := Lib.hid h4; clear h4
    have HM := Lib.hid hm; clear hm
    go_enter Tryz.func128, Tryz.ntmps128
    go_wp2_with (go_at_call 22; refine (abs_any _ _ hB).mono ?_; rw [HM.out]; rintro e w' ⟨rfl, rfl⟩)
    go_ret2
    exact ⟨r2, 52, rfl, by omega, h2, h3, H4.out, rfl⟩
  · have ht : (FloatKind.f64.format.order r 4503599627370496 == some Ordering.lt) = false := by
      rw [rung_order (by omega) (by omega)]
      rcases Nat.lt_or_ge 4503599627370496 r with h5 | h5
      · rw [cmp_gt (by omega)]; rfl
      · rw [cmp_eq (by omega)]; rfl
    have HM := Lib.hid hm; clear hm
    go_enter Tryz.func128, Tryz.ntmps128
    go_wp2_with (go_at_call 22; refine (abs_any _ _ hB).mono ?_; rw [HM.out]; rintro e w' ⟨rfl, rfl⟩)
    go_ret2
    exact ⟨r, 0, rfl, by omega, by omega, h1, by simp, rfl⟩

end Go.Proofs.YteophaobcebppaaGreatDoor.dg
