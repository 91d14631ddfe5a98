/- The walk of math.Ldexp, of numbers that are not below 0. Conditions: what each says. -/
import Derived.Test.YteophaobcebppaaGreatDoorMathB
set_option linter.unusedSimpArgs false
namespace Go.Proofs.YteophaobcebppaaGreatDoor.dg
open Go.RowKit
set_option linter.unusedVariables false

theorem ldexp_zero (e : Int) (w : World) :
    Calls Tryz.prog 108 #[.float .f64 0, .int .i64 e] w fun en w' => en = .returned (.float .f64 0) ∧ w = w' := by
  have ht : (FloatKind.f64.format.order 0 0 == some Ordering.eq) = true := by decide +kernel
  go_enter Tryz.func108, Tryz.ntmps108
  go_wp2
  go_ret
  exact ⟨rfl, rfl⟩

theorem rz_low {M : Nat} {T : Int} (hM : M < 2 ^ 53) (hT : T ≤ -54) : rz M T = 0 := by
  unfold rz
  have h1 : T.toNat = 0 := by omega
  rw [h1, Nat.pow_zero, Nat.mul_one]
  refine (near_rd (Nat.two_pow_pos _) ?_).symm
  have h2 : 2 ^ 54 ≤ 2 ^ (-T).toNat := Nat.pow_le_pow_right (by omega) (by omega)
  refine ⟨by omega, fun h => absurd h (by omega), fun _ => ?_⟩
  have hv : V (0 + 1) = 1 := V_small (by omega)
  rw [V_zero, hv, Nat.zero_add, Nat.mul_one]
  generalize 2 ^ (-T).toNat = Y at *
  exact ⟨by omega, by omega⟩

theorem rz_high {M : Nat} {T : Int} (hM : 2 ^ 52 ≤ M) (hT : (TOP : Int) ≤ T) : rz M T = INF := by
  obtain ⟨t, rfl⟩ := Int.eq_ofNat_of_zero_le (show 0 ≤ T by omega)
  rw [rz_nat]
  refine (near_rd (by omega) (near_top ?_)).symm
  rw [Nat.one_mul, V_INF]
  exact Nat.mul_le_mul hM (Nat.pow_le_pow_right (by omega) (by omega))

theorem V_normal {E f : Nat} (hE : 1 ≤ E) (hf : f < 2 ^ 52) : V (2 ^ 52 * E + f) = (2 ^ 52 + f) * 2 ^ (E - 1) := by
  have e : 2 ^ 52 * E + f = (E - 1) * 2 ^ 52 + (2 ^ 52 + f) := by omega
  rw [e]
  exact V_rung _ _ (by omega) (fun _ => by omega)

theorem rz_V {r : Nat} (h : r ≤ INF) : rz (V r) 0 = r := by
  have := rz_nat (V r) 0
  rw [Nat.pow_zero, Nat.mul_one, rd_V h] at this
  exact this

/-- what ldexp tells of a number, in the parts that it takes. -/
theorem ldexp_parts {r r2 k E f : Nat} {e : Int} (hV : V r2 = V r * 2 ^ k) (hr : r2 = E * 2 ^ 52 + f) (hE : 1 ≤ E) (hf : f < 2 ^ 52) : rz (V r) e = rz (2 ^ 52 + f) (e - k + E - 1) := by
  have h1 : rz (V r) e = rz (V r * 2 ^ k) (e - k) := by rw [rz_shift]; congr 1; omega
  rw [h1, ← hV, hr, show E * 2 ^ 52 + f = 2 ^ 52 * E + f from by omega, V_normal hE hf, rz_shift]
  congr 1; omega

theorem mul_one_w {y : Nat} (hy : y < INF) : floatBits .mul .f64 4607182418800017408 y = some y := by
  show Ieee.double.mul _ _ = _
  have hI := INF_val
  rw [mul_rung (by omega) hy]
  refine congrArg some ?_
  obtain ⟨n, hn⟩ : ∃ n : Nat, n = 1022 := ⟨_, rfl⟩
  have e : V 4607182418800017408 = 2 ^ (52 + n) := by
    rw [Nat.pow_add, ← V_pow52 n, show (n + 1) * 2 ^ 52 = 4607182418800017408 from by omega]
  rw [e, Nat.mul_comm, rz_shift]
  have e2 : (-1074 + ((52 + n : Nat) : Int)) = 0 := by omega
  rw [e2, rz_V (by omega)]

theorem mul_small_w {y E f : Nat} {T : Int} (hy : y < INF) (hE : 1 ≤ E) (hf : f < 2 ^ 52) (hy2 : y = 2 ^ 52 * E + f) (hT : (E : Int) = T + 54) : floatBits .mul .f64 4368491638549381120 y = some (rz (2 ^ 52 + f) T) := by
  show Ieee.double.mul _ _ = _
  have hI := INF_val
  rw [mul_rung (by omega) hy]
  refine congrArg some ?_
  obtain ⟨n, hn⟩ : ∃ n : Nat, n = 969 := ⟨_, rfl⟩
  have e : V 4368491638549381120 = 2 ^ (52 + n) := by
    rw [Nat.pow_add, ← V_pow52 n, show (n + 1) * 2 ^ 52 = 4368491638549381120 from by omega]
  have e2 : (-1074 + ((52 + n : Nat) : Int)) + ((E - 1 : Nat) : Int) = T := by omega
  rw [e, hy2, V_normal hE hf, Nat.mul_comm, rz_shift, rz_shift, e2]

theorem and_2047 (E : Nat) (h : E ≤ 2046) : bits .and .i64 (E : Int) 2047 = (E : Int) := by
  have h1 : (BitVec.ofInt 64 (E : Int)).toNat = E := by
    rw [BitVec.ofInt_natCast, BitVec.toNat_ofNat]; exact Nat.mod_eq_of_lt (by omega)
  have h2 : (BitVec.ofInt 64 (2047 : Int)).toNat = 2 ^ 11 - 1 := by decide
  show IntKind.i64.wrap ((BitVec.ofInt 64 (E : Int) &&& BitVec.ofInt 64 (2047 : Int)).toNat : Int) = _
  rw [BitVec.toNat_and, h1, h2, Nat.and_two_pow_sub_one_eq_mod, Nat.mod_eq_of_lt (by omega), IntKind.wrap_i64]
  omega

theorem ldexp_word {r2 E E' f : Nat} (hr : r2 = E * 2 ^ 52 + f) (hE : E ≤ 2046) (hf : f < 2 ^ 52) (hE' : E' ≤ 2046) :
    bits .or .u64 (bits .andNot .u64 (r2 : Int) 9218868437227405312) ((E' : Int) * 4503599627370496) = ((2 ^ 52 * E' + f : Nat) : Int) := by
  rw [andNot_exp r2 (by omega), show ((E' : Int) * 4503599627370496) = ((2 ^ 52 * E' : Nat) : Int) from by omega]
  have h1 : r2 % 2 ^ 52 = f := by omega
  rw [h1, or_hi 52 f E' hf (by rw [B64_def]; omega) (by rw [B64_def]; omega)]

set_option maxHeartbeats 800000 in
set_option maxRecDepth 100000 in
theorem ldexp_pos (r : Nat) (e : Int) (w : World) (h0 : 0 < r) (h1 : r < INF) (he0 : -1000000000 ≤ e) (he1 : e ≤ 1000000000) :
    Calls Tryz.prog 108 #[.float .f64 r, .int .i64 e] w fun en w' => en = .returned (.float .f64 (rz (V r) e)) ∧ w = w' := by
  have hI := INF_val
  have hB : r < B64 := by have := INF_lt; rw [B64_pow]; omega
  have t0 : (FloatKind.f64.format.order r 0 == some Ordering.eq) = false := by
    rw [rung_order (by omega) (by omega), cmp_gt (by omega)]; rfl
  have t1 : isInfW r = false := by unfold isInfW; rw [Nat.mod_eq_of_lt (by omega), decide_eq_false (by omega)]
  have t2 : isNaN r = false := by unfold isNaN; rw [Nat.mod_eq_of_lt (by omega), decide_eq_false (by omega)]
  go_enter Tryz.func108, Tryz.ntmps108
  go_wp2_with (first | (go_at_call 110; refine (isinf_any _ _ hB).mono ?_; rw [t1]; rintro e w' ⟨rfl, rfl⟩) | (go_at_call 109; refine (isnan_any _ _ hB).mono ?_; rw [t2]; rintro e w' ⟨rfl, rfl⟩) | fail)
  refine (normalize_any r _ h0 h1).mono ?_
  rintro en w' ⟨r2, k, rfl, hk, h2, h3, hV, rfl⟩
  obtain ⟨E, f, hr2, hE0, hE1, hf⟩ : ∃ E f, r2 = E * 2 ^ 52 + f ∧ 1 ≤ E ∧ E ≤ 2046 ∧ f < 2 ^ 52 := ⟨r2 / 2 ^ 52, r2 % 2 ^ 52, by omega, by omega, by omega, by omega⟩
  have q1 : ((r2 : Nat) : Int) / 4503599627370496 = (E : Int) := by omega
  have q2 := and_2047 E hE1
  have HP := Lib.hid (ldexp_parts (e := e) hV hr2 hE0 hf); clear hV
  have hB2 : r2 < 2 ^ 63 := by omega
  by_cases c1 : e + -(k : Int) + ((E : Int) - 1023) < -1075
  · have HR := Lib.hid hr2; clear hr2
    go_wp2_with (go_at_call 26; refine (copysign_any 0 r2 _ B64_pos (by rw [B64_pow]; omega)).mono ?_; rintro e w' ⟨rfl, rfl⟩)
    go_ret
    refine ⟨ret_f64 ?_, rfl⟩
    rw [HP.out, rz_low (by omega) (by omega)]
    omega
  · by_cases c2 : e + -(k : Int) + ((E : Int) - 1023) > 1023
    · have HR := Lib.hid hr2; clear hr2
      have t3 : (FloatKind.f64.format.order r2 0 == some Ordering.lt) = false := by
        rw [rung_order (by omega) (by omega), cmp_gt (by omega)]; rfl
      go_wp2_with (go_at_call 54; refine (inf_pos _).mono ?_; rintro e w' ⟨rfl, rfl⟩)
      go_ret
      refine ⟨ret_f64 ?_, rfl⟩
      rw [HP.out, rz_high (by omega) (by unfold TOP; omega)]
      exact INF_val.symm
    · by_cases c3 : e + -(k : Int) + ((E : Int) - 1023) < -1022
      · obtain ⟨E', hE'⟩ : ∃ E' : Nat, e + -(k : Int) + ((E : Int) - 1023) + 53 + 1023 = (E' : Int) := ⟨(e + -(k : Int) + ((E : Int) - 1023) + 53 + 1023).toNat, by omega⟩
        obtain ⟨y, hyv⟩ : ∃ y, y = 2 ^ 52 * E' + f := ⟨_, rfl⟩
        have hw := ldexp_word hr2 hE1 hf (show E' ≤ 2046 by omega)
        have hmul := mul_small_w (y := y) (E := E') (f := f) (T := e - k + E - 1) (by omega) (by omega) hf hyv (by omega)
        rw [← HP.out] at hmul
        have hrun := fun w => run_float_arith (P := Tryz.prog) w .mul 23 .f64 4368491638549381120 y _ hmul
        rw [← hyv] at hw
        have HR := Lib.hid hr2; clear hr2
        clear hyv hmul
        go_wp2_with fail
        go_ret
        exact ⟨rfl, rfl⟩
      · obtain ⟨E', hE'⟩ : ∃ E' : Nat, e + -(k : Int) + ((E : Int) - 1023) + 1023 = (E' : Int) := ⟨(e + -(k : Int) + ((E : Int) - 1023) + 1023).toNat, by omega⟩
        obtain ⟨y, hyv⟩ : ∃ y, y = 2 ^ 52 * E' + f := ⟨_, rfl⟩
        have hw := ldexp_word hr2 hE1 hf (show E' ≤ 2046 by omega)
        have hmul := mul_one_w (y := y) (by omega)
        have hrz : y = rz (V r) e := by
          rw [HP.out]
          obtain ⟨t, ht⟩ := Int.eq_ofNat_of_zero_le (show 0 ≤ e - (k : Int) + E - 1 by omega)
          rw [ht, rz_nat, show (2 ^ 52 + f) * 2 ^ t = V y from by rw [hyv, V_normal (by omega) hf]; congr 2; omega, rd_V (by omega)]
        have hrun := fun w => run_float_arith (P := Tryz.prog) w .mul 23 .f64 4607182418800017408 y _ hmul
        rw [← hyv] at hw
        have HR := Lib.hid hr2; clear hr2
        have HZ := Lib.hid hrz; clear hrz
        clear hyv hmul
        go_wp2_with fail
        go_ret
        exact ⟨ret_f64 HZ.out, rfl⟩

theorem ldexp_any (r : Nat) (e : Int) (w : World) (h1 : r < INF) (he0 : -1000000000 ≤ e) (he1 : e ≤ 1000000000) :
    Calls Tryz.prog 70 #[.float .f64 r, .int .i64 e] w fun en w' => en = .returned (.float .f64 (rz (V r) e)) ∧ w = w' := by
  have hin : Calls Tryz.prog 108 #[.float .f64 r, .int .i64 e] w fun en w' => en = .returned (.float .f64 (rz (V r) e)) ∧ w = w' := by
    rcases Nat.eq_zero_or_pos r with rfl | h0
    · rw [V_zero, rz_zero]; exact ldexp_zero e w
    · exact ldexp_pos r e w h0 h1 he0 he1
  go_enter Tryz.func70, Tryz.ntmps70
  go_wp2_with (go_at_call 108; refine hin.mono ?_; rintro e w' ⟨rfl, rfl⟩)
  go_ret
  exact ⟨rfl, rfl⟩

end Go.Proofs.YteophaobcebppaaGreatDoor.dg
