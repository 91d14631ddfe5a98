/- Plain and walks: math.Floor, Log, Log10: of a number above 0 they lie between bounds. Conditions: none beyond what each says. -/
import Derived.Test.YteophaobcebppaaGreatDoorLog
import Derived.Test.YteophaobcebppaaGreatDoorMathC
namespace Go.Proofs.YteophaobcebppaaGreatDoor.dg
open Ieee Go.RowKit
set_option linter.unusedVariables false

theorem cut_low (way : Toward) (s : Bool) (n drop : Nat) : ∃ low, way.cut s n drop ≤ low + 1 ∧ low * 2 ^ drop ≤ n ∧ (way = .zero → way.cut s n drop = low) := by
  refine ⟨n / (1 <<< min drop (n.log2 + 2)), ?_, ?_, ?_⟩
  · unfold Toward.cut
    simp only
    have : ∀ b : Bool, b.toNat ≤ 1 := fun b => by cases b <;> decide
    exact Nat.add_le_add_left (this _) _
  · rw [Nat.one_shiftLeft]
    rcases Nat.le_total drop (n.log2 + 2) with h | h
    · rw [Nat.min_eq_left h]; exact Nat.div_mul_le_self _ _
    · rw [Nat.min_eq_right h]
      have h1 : n < 2 ^ (n.log2 + 1) := Nat.lt_log2_self
      have h2 : 2 ^ (n.log2 + 1) ≤ 2 ^ (n.log2 + 2) := Nat.pow_le_pow_right (by omega) (by omega)
      rw [Nat.div_eq_of_lt (by omega), Nat.zero_mul]; exact Nat.zero_le _
  · rintro rfl; unfold Toward.cut; simp

theorem low_scale {m low p : Nat} (h : low * 2 ^ (-(((p : Nat) : Int) - 1074)).toNat ≤ m <<< (((p : Nat) : Int) - 1074).toNat) : low * ONE 1074 ≤ m * 2 ^ p := by
  rw [Nat.shiftLeft_eq] at h
  obtain ⟨K, hK⟩ : ∃ K : Nat, K = 1074 := ⟨_, rfl⟩
  have e : (((p : Nat) : Int) - 1074).toNat + K = p + (-(((p : Nat) : Int) - 1074)).toNat := by omega
  rw [← hK]
  generalize (((p : Nat) : Int) - 1074).toNat = a at *
  generalize (-(((p : Nat) : Int) - 1074)).toNat = b at *
  unfold ONE
  have h1 := Nat.mul_le_mul_right (2 ^ K) h
  have e2 : m * 2 ^ a * 2 ^ K = m * 2 ^ p * 2 ^ b := by rw [Nat.mul_assoc, ← Nat.pow_add, e, Nat.pow_add, Nat.mul_assoc]
  have e3 : low * 2 ^ b * 2 ^ K = low * 2 ^ K * 2 ^ b := Nat.mul_right_comm ..
  rw [e2, e3] at h1
  exact Nat.le_of_mul_le_mul_right h1 (Nat.two_pow_pos b)

theorem archfloor_bd {N x : Nat} (h : Bd N x) (hN : N ≤ 2 ^ 50) : ∃ r, Extern.MathFloor.toIntegral "math.archFloor" .down #[.float .f64 x] = pure (.float .f64 r) ∧ Bd (N + 1024) r := by
  have e1 : FloatKind.f64.decode x = .number (decide (2 ^ 63 ≤ x)) (mg (x % 2 ^ 63)) ((pl (x % 2 ^ 63) : Nat) - 1074 : Int) := read_fin h.num.word h.num.fin
  refine ⟨_, (by
    delta Extern.MathFloor.toIntegral Extern.MathFloor.toIntegral.match_2
    dsimp only [List.size_toArray, List.length_cons, List.length_nil, Array.getLit]
    rw [dif_pos (show (#[Value.float .f64 x]).size = 1 from rfl)]
    have e2 : ((#[Value.float FloatKind.f64 x])[0]'Nat.zero_lt_one : Value) = .float .f64 x := rfl
    rw [e2]
    delta Extern.MathFloor.toIntegral._sparseCasesOn_2 Extern.MathFloor.toIntegral._sparseCasesOn_3
    dsimp only
    rw [e1]), ?_⟩
  have hv := h.le
  rw [sv_abs, V_mg] at hv
  generalize decide (2 ^ 63 ≤ x) = s at *
  generalize mg (x % 2 ^ 63) = m at *
  generalize pl (x % 2 ^ 63) = p at *
  obtain ⟨low, h1, h2, -⟩ := cut_low .down s (m <<< (((p : Nat) : Int) - 1074).toNat) (-(((p : Nat) : Int) - 1074)).toNat
  have h3 := low_scale h2
  show Bd (N + 1024) (double.nearest s (Toward.down.cut s (m <<< (((p : Nat) : Int) - 1074).toNat) (-(((p : Nat) : Int) - 1074)).toNat) 0)
  generalize Toward.down.cut s (m <<< (((p : Nat) : Int) - 1074).toNat) (-(((p : Nat) : Int) - 1074)).toNat = c at *
  rw [nearest_rz]
  obtain ⟨r0, h0, e0⟩ := V_big (N := N + 1024) (by omega)
  have h10 : ONE 1074 = 1024 * ONE 1064 := by
    have : ONE (10 + 1064) = _ := ONE_split 10 1064
    rw [show ONE 10 = 1024 by unfold ONE; rfl] at this; exact this
  have hk : rz c (0 + 1074) ≤ r0 := by
    unfold rz
    refine rd_upper (Nat.two_pow_pos _) (Nat.le_of_lt h0) ?_
    obtain ⟨K, hK⟩ : ∃ K : Nat, K = 1074 := ⟨_, rfl⟩
    have e1 : ((0 : Int) + 1074).toNat = K := by omega
    have e2 : (-((0 : Int) + 1074)).toNat = 0 := by omega
    rw [e1, e2, Nat.pow_zero, Nat.one_mul, e0]
    have e3 : 2 ^ K = ONE 1074 := by rw [hK]; unfold ONE; rfl
    rw [e3]
    have h4 : c * ONE 1074 ≤ (low + 1) * ONE 1074 := Nat.mul_le_mul_right _ h1
    rw [Nat.add_mul, Nat.one_mul] at h4
    rw [Nat.add_mul]
    omega
  obtain ⟨a, b⟩ := word_val s (k := rz c (0 + 1074)) (by omega)
  refine ⟨a, ?_⟩
  rw [b, ← e0]
  have h9 := V_le hk
  generalize V (rz c (0 + 1074)) = v1 at *
  generalize V r0 = v0 at *
  split <;> omega

theorem toInt_bd {N x : Nat} (h : Bd N x) (hN : N ≤ 2 ^ 50) : ∃ n : Int, (double.read x).toInt .zero = some n ∧ n.natAbs * 1024 ≤ N := by
  rw [read_fin h.num.word h.num.fin]
  have hv := h.le
  rw [sv_abs, V_mg] at hv
  generalize decide (2 ^ 63 ≤ x) = s at *
  generalize mg (x % 2 ^ 63) = m at *
  generalize pl (x % 2 ^ 63) = p at *
  refine ⟨_, rfl, ?_⟩
  obtain ⟨low, -, h2, h1⟩ := cut_low .zero s (m <<< (((p : Nat) : Int) - 1074).toNat) (-(((p : Nat) : Int) - 1074)).toNat
  have h3 := low_scale h2
  rw [h1 rfl, signed_eq, Nat.pow_zero, Nat.mul_one]
  have h10 : ONE 1074 = 1024 * ONE 1064 := by
    have : ONE (10 + 1064) = _ := ONE_split 10 1064
    rw [show ONE 10 = 1024 by unfold ONE; rfl] at this; exact this
  have e : (if s = true then -((low : Nat) : Int) else ((low : Nat) : Int)).natAbs = low := by split <;> omega
  rw [e]
  refine Nat.le_of_mul_le_mul_right (c := ONE 1064) ?_ (ONE_pos _)
  rw [Nat.mul_assoc, ← h10]
  omega

theorem archfloor_call {N x : Nat} (h : Bd N x) (hN : N ≤ 2 ^ 50) : ∃ r, (∀ w, (callFunc 72 #[.float .f64 x]).run Tryz.prog w = .ok (.value (.float .f64 r)) w) ∧ Bd (N + 1024) r := by
  obtain ⟨r, e, b⟩ := archfloor_bd h hN
  refine ⟨r, fun w => ?_, b⟩
  rw [run_callFunc_extern Tryz.func72 (by kernel_rfl) (by kernel_rfl) (by kernel_rfl) (e := Extern.MathFloor.toIntegral "math.archFloor" .down) (by kernel_rfl)]
  rw [e]; rfl

theorem archlog_call {x : Nat} (h0 : 0 < x) (h1 : x < INF) : ∃ r, (∀ w, (callFunc 130 #[.float .f64 x]).run Tryz.prog w = .ok (.value (.float .f64 r)) w) ∧ Bd 3000000 r := by
  obtain ⟨r, e, b⟩ := archlog_bd h0 h1
  refine ⟨r, fun w => ?_, b⟩
  rw [run_callFunc_extern Tryz.func130 (by kernel_rfl) (by kernel_rfl) (by kernel_rfl) (e := Extern.MathLog.archLog) (by kernel_rfl)]
  rw [e]; rfl

theorem floor_any {N x : Nat} (h : Bd N x) (hN : N ≤ 2 ^ 50) (w : World) :
    Calls Tryz.prog 35 #[.float .f64 x] w fun e w' => ∃ r, e = .returned (.float .f64 r) ∧ Bd (N + 1024) r ∧ w = w' := by
  obtain ⟨r, hr, b⟩ := archfloor_call h hN
  go_enter Tryz.func35, Tryz.ntmps35
  go_wp2
  go_ret
  exact ⟨r, rfl, b, rfl⟩

theorem log_any {x : Nat} (h0 : 0 < x) (h1 : x < INF) (w : World) :
    Calls Tryz.prog 112 #[.float .f64 x] w fun e w' => ∃ r, e = .returned (.float .f64 r) ∧ Bd 3000000 r ∧ w = w' := by
  obtain ⟨r, hr, b⟩ := archlog_call h0 h1
  go_enter Tryz.func112, Tryz.ntmps112
  go_wp2
  go_ret
  exact ⟨r, rfl, b, rfl⟩

theorem log10in_any {x : Nat} (h0 : 0 < x) (h1 : x < INF) (w : World) :
    Calls Tryz.prog 75 #[.float .f64 x] w fun e w' => ∃ r, e = .returned (.float .f64 r) ∧ Bd 3000000 r ∧ w = w' := by
  have h2 : ∀ r, Bd 3000000 r → ∃ z, floatBits .mul .f64 r 4601495173785380110 = some z ∧ Bd 3000000 z := fun r b => by
    obtain ⟨z, e, -, bz, -⟩ := mul_bd (K := 3000000) b (const_bd (c := 4601495173785380110) (j := 0) (by omega) (by omega)) (by omega) (by omega)
    exact ⟨z, e, bz⟩
  have H2 := Lib.hid h2; clear h2
  go_enter Tryz.func75, Tryz.ntmps75
  go_wp2_with fail
  refine (log_any h0 h1 _).mono ?_
  rintro e w' ⟨r, rfl, b, rfl⟩
  obtain ⟨z, hz, bz⟩ := H2.out r b
  have hrun := fun w => run_float_arith (P := Tryz.prog) w .mul 23 .f64 r 4601495173785380110 z hz
  clear hz
  go_wp2_with fail
  go_ret
  exact ⟨z, rfl, bz, rfl⟩

theorem log10_any {x : Nat} (h0 : 0 < x) (h1 : x < INF) (w : World) :
    Calls Tryz.prog 36 #[.float .f64 x] w fun e w' => ∃ r, e = .returned (.float .f64 r) ∧ Bd 3000000 r ∧ w = w' := by
  go_enter Tryz.func36, Tryz.ntmps36
  go_wp2_with (go_at_call 75; refine (log10in_any h0 h1 _).mono ?_; rintro e w' ⟨r, rfl, b, rfl⟩)
  go_ret
  exact ⟨r, rfl, b, rfl⟩

theorem and_2047u (E : Nat) (h : E ≤ 2046) : bits .and .u64 (E : Int) 2047 = (E : Int) := by
  have h1 : (BitVec.ofInt 64 (E : Int)).toNat = E := by
    rw [BitVec.ofInt_natCast, BitVec.toNat_ofNat]; exact Nat.mod_eq_of_lt (by omega)
  have h2 : (BitVec.ofInt 64 (2047 : Int)).toNat = 2 ^ 11 - 1 := by decide
  show IntKind.u64.wrap ((BitVec.ofInt 64 (E : Int) &&& BitVec.ofInt 64 (2047 : Int)).toNat : Int) = _
  rw [BitVec.toNat_and, h1, h2, Nat.and_two_pow_sub_one_eq_mod, Nat.mod_eq_of_lt (by omega), IntKind.wrap_u64]
  omega

theorem ret_fi {a b : Nat} {c d : Int} (h : a = b) (h2 : c = d) : Ending.returned (.tuple #[.float .f64 a, .int .i64 c]) = .returned (.tuple #[.float .f64 b, .int .i64 d]) := by rw [h, h2]

set_option maxRecDepth 100000 in
theorem frexp_pos (r : Nat) (w : World) (h0 : 0 < r) (h1 : r < INF) :
    Calls Tryz.prog 106 #[.float .f64 r] w fun en w' => ∃ (f k E : Nat), en = .returned (.tuple #[.float .f64 (1022 * 2 ^ 52 + f), .int .i64 ((E : Int) - 1022 - k)]) ∧ f < 2 ^ 52 ∧ k ≤ 52 ∧ 1 ≤ E ∧ E ≤ 2046 ∧ V r * 2 ^ k = (2 ^ 52 + f) * 2 ^ (E - 1) ∧ w = w' := by
  have hI := INF_val
  have hB : r < B64 := by have := INF_lt; rw [B64_pow]; omega
  have t0 : (FloatKind.f64.format.order r 0 == some Ordering.eq) = false := by
    rw [rung_order (by omega) (by omega), cmp_gt (by omega)]; rfl
  have t1 : isInfW r = false := by unfold isInfW; rw [Nat.mod_eq_of_lt (by omega), decide_eq_false (by omega)]
  have t2 : isNaN r = false := by unfold isNaN; rw [Nat.mod_eq_of_lt (by omega), decide_eq_false (by omega)]
  go_enter Tryz.func106, Tryz.ntmps106
  go_wp2_with (first | (go_at_call 110; refine (isinf_any _ _ hB).mono ?_; rw [t1]; rintro e w' ⟨rfl, rfl⟩) | (go_at_call 109; refine (isnan_any _ _ hB).mono ?_; rw [t2]; rintro e w' ⟨rfl, rfl⟩) | fail)
  refine (normalize_any r _ h0 h1).mono ?_
  rintro en w' ⟨r2, k, rfl, hk, h2, h3, hV, rfl⟩
  obtain ⟨E, f, hr2, hE0, hE1, hf⟩ : ∃ E f, r2 = E * 2 ^ 52 + f ∧ 1 ≤ E ∧ E ≤ 2046 ∧ f < 2 ^ 52 := ⟨r2 / 2 ^ 52, r2 % 2 ^ 52, by omega, by omega, by omega, by omega⟩
  have q1 : ((r2 : Nat) : Int) / 4503599627370496 = (E : Int) := by omega
  have q2 := and_2047u E hE1
  have q3 : bits .andNot .u64 (r2 : Int) 9218868437227405312 = ((f : Nat) : Int) := by
    rw [andNot_exp r2 (by omega)]; congr 1; omega
  have q4 : bits .or .u64 ((f : Nat) : Int) 4602678819172646912 = ((1022 * 2 ^ 52 + f : Nat) : Int) := by
    have := or_hi 52 f 1022 hf (by rw [B64_pow]; omega) (by rw [B64_pow]; omega)
    rw [show ((2 ^ 52 * 1022 : Nat) : Int) = 4602678819172646912 by omega] at this
    rw [this]
  have HV := Lib.hid hV; clear hV
  have HR := Lib.hid hr2; clear hr2
  go_wp2_with fail
  go_ret2
  refine ⟨f, k, E, ?_, hf, hk, hE0, hE1, ?_, rfl⟩
  · exact ret_fi rfl (by omega)
  · have e9 : E * 2 ^ 52 + f = 2 ^ 52 * E + f := by rw [Nat.mul_comm]
    rw [← HV.out, HR.out, e9, V_normal hE0 hf]

theorem frexp_any (r : Nat) (w : World) (h0 : 0 < r) (h1 : r < INF) :
    Calls Tryz.prog 69 #[.float .f64 r] w fun en w' => ∃ (f k E : Nat), en = .returned (.tuple #[.float .f64 (1022 * 2 ^ 52 + f), .int .i64 ((E : Int) - 1022 - k)]) ∧ f < 2 ^ 52 ∧ k ≤ 52 ∧ 1 ≤ E ∧ E ≤ 2046 ∧ V r * 2 ^ k = (2 ^ 52 + f) * 2 ^ (E - 1) ∧ w = w' := by
  go_enter Tryz.func69, Tryz.ntmps69
  go_wp2_with (go_at_call 106; refine (frexp_pos r _ h0 h1).mono ?_; rintro e w' ⟨f, k, E, rfl, hf, hk, hE0, hE1, hV, rfl⟩)
  go_ret2
  exact ⟨f, k, E, rfl, hf, hk, hE0, hE1, hV, rfl⟩

end Go.Proofs.YteophaobcebppaaGreatDoor.dg
