/- The walks of digits.parts and digits.below. Conditions: what each says. -/
import Derived.Test.YteophaobcebppaaGreatDoorFlr
import Derived.Test.YteophaobcebppaaGreatDoorRead
namespace Go.Proofs.YteophaobcebppaaGreatDoor.dg
open Go.RowKit
set_option linter.unusedVariables false

/-- the number of a float that stands for a whole one of 53 bits. -/
theorem whole_float {M : Nat} (h0 : 2 ^ 52 ≤ M) (h1 : M < 2 ^ 53) : floatToIntVal .f64 (1074 * 2 ^ 52 + M) .u64 = some (M : Int) := by
  have hI := INF_val
  have hI2 := INF_lt
  have e1 : FloatKind.f64.decode (1074 * 2 ^ 52 + M) = .number false (mg (1074 * 2 ^ 52 + M)) ((pl (1074 * 2 ^ 52 + M) : Nat) - 1074 : Int) := read_rung (by omega)
  have e2 : mg (1074 * 2 ^ 52 + M) = M := by unfold mg; rw [if_neg (by omega)]; omega
  have e3 : pl (1074 * 2 ^ 52 + M) = 1074 := by unfold pl; omega
  rw [e2, e3] at e1
  have e4 : (FloatKind.f64.decode (1074 * 2 ^ 52 + M)).toInt .zero = some (M : Int) := by
    rw [e1]
    show some (Ieee.signed false (Ieee.Toward.zero.cut false (M <<< ((((1074 : Nat) : Int) - 1074)).toNat) (-((((1074 : Nat) : Int) - 1074))).toNat) 0) = _
    have e5 : (((1074 : Nat) : Int) - 1074).toNat = 0 := by omega
    have e6 : (-(((1074 : Nat) : Int) - 1074)).toNat = 0 := by omega
    rw [e5, e6, signed_false, Nat.pow_zero, Nat.mul_one]
    have e7 : M <<< 0 = M := rfl
    have e8 : Ieee.Toward.zero.cut false M 0 = M := by
      unfold Ieee.Toward.cut; simp
    rw [e7, e8]
  unfold floatToIntVal
  rw [e4]
  have h2 : IntKind.u64.min ≤ (M : Int) ∧ (M : Int) ≤ IntKind.u64.max := by
    have a1 : IntKind.u64.min = 0 := by decide
    have a2 : IntKind.u64.max = 18446744073709551615 := by decide
    rw [a1, a2]; omega
  simp only [h2, and_self, if_true]

theorem frac_up {f : Nat} (hf : f < 2 ^ 52) : rz (V (1022 * 2 ^ 52 + f)) 53 = 1074 * 2 ^ 52 + (2 ^ 52 + f) := by
  have hI := INF_val
  obtain ⟨E, hE⟩ : ∃ E : Nat, E = 1022 := ⟨_, rfl⟩
  obtain ⟨K, hK⟩ : ∃ K : Nat, K = 1074 := ⟨_, rfl⟩
  have e0 : 1022 * 2 ^ 52 + f = 2 ^ 52 * E + f := by omega
  have e1 : V (2 ^ 52 * E + f) = (2 ^ 52 + f) * 2 ^ (E - 1) := V_normal (by omega) hf
  have e2 : (53 : Int) = ((53 : Nat) : Int) := rfl
  rw [e0, e1, e2, rz_nat, Nat.mul_assoc, ← Nat.pow_add]
  have e3 : E - 1 + 53 = K := by omega
  rw [e3, ← V_rung K (2 ^ 52 + f) (by omega) (by omega), ← hK]
  exact rd_V (by omega)

/-- the two whole numbers of a rung: their quotient is its value. -/
structure Parts (r A B : Nat) : Prop where
  eq : V r * B = A * ONE 1074
  pos : 0 < B
  lenA : (words A).length ≤ 2000
  lenB : (words B).length ≤ 2000

theorem words_two (k : Nat) : (words (2 ^ k)).length ≤ k + 1 :=
  words_len_of_lt (Nat.lt_of_lt_of_le (Nat.pow_lt_pow_right (by omega) (Nat.lt_succ_self k)) (Nat.pow_le_pow_left (by rw [B64_def]; omega) _))

theorem words_small {m : Nat} (h : m < B64) : (words m).length ≤ 1 := words_len_of_lt (by rw [Nat.pow_one]; exact h)

theorem parts_high {r f k E : Nat} {e : Int} (hf : f < 2 ^ 52) (hV : V r * 2 ^ k = (2 ^ 52 + f) * 2 ^ (E - 1)) (hE1 : E ≤ 2046) (he : (e : Int) = (E : Int) - 1022 - k - 53) (h0 : 0 ≤ e) : Parts r ((2 ^ 52 + f) * 2 ^ e.toNat) 1 := by
  obtain ⟨K, hK⟩ : ∃ K : Nat, K = 1074 := ⟨_, rfl⟩
  refine ⟨?_, by omega, ?_, ?_⟩
  · refine Nat.eq_of_mul_eq_mul_right (Nat.two_pow_pos k) ?_
    unfold ONE
    rw [Nat.mul_one, hV, ← hK, Nat.mul_assoc, Nat.mul_assoc, ← Nat.pow_add, ← Nat.pow_add]
    congr 2; omega
  · have h1 := words_mul (2 ^ 52 + f) (2 ^ e.toNat)
    have h2 := words_two e.toNat
    have h3 := words_small (m := 2 ^ 52 + f) (by rw [B64_def]; omega)
    omega
  · have := words_small (m := 1) (by rw [B64_def]; omega)
    omega

theorem parts_low {r f k E : Nat} {e : Int} (hf : f < 2 ^ 52) (hV : V r * 2 ^ k = (2 ^ 52 + f) * 2 ^ (E - 1)) (hE0 : 1 ≤ E) (hk : k ≤ 52) (he : (e : Int) = (E : Int) - 1022 - k - 53) (h0 : e < 0) : Parts r (2 ^ 52 + f) (2 ^ (-e).toNat) := by
  obtain ⟨K, hK⟩ : ∃ K : Nat, K = 1074 := ⟨_, rfl⟩
  refine ⟨?_, Nat.two_pow_pos _, ?_, ?_⟩
  · refine Nat.eq_of_mul_eq_mul_right (Nat.two_pow_pos k) ?_
    unfold ONE
    rw [Nat.mul_right_comm, hV, ← hK, Nat.mul_assoc, Nat.mul_assoc, ← Nat.pow_add, ← Nat.pow_add]
    congr 2; omega
  · have := words_small (m := 2 ^ 52 + f) (by rw [B64_def]; omega)
    omega
  · have h2 := words_two (-e).toNat
    omega

set_option maxRecDepth 100000 in
theorem dparts_any (r : Nat) (w : World) (h0 : 0 < r) (h1 : r < INF) :
    Calls Tryz.prog 34 #[.float .f64 r] w fun en w' => ∃ v1 v2 A B, en = .returned (.tuple #[v1, v2]) ∧ Rd64 w' v1 (words A) ∧ Rd64 w' v2 (words B) ∧ Parts r A B ∧ Below w.heap.size w w' := by
  have H1 : Hid (∀ M : Nat, 2 ^ 52 ≤ M → M < 2 ^ 53 → ∀ w, (convert 23 27 (.float .f64 (1074 * 2 ^ 52 + M))).run Tryz.prog w = .ok (.int .u64 (M : Int)) w) := Lib.hid fun M a b w => by
    exact run_convert_float_int w 23 27 .f64 .u64 _ _ (by kernel_rfl) (by kernel_rfl) (whole_float a b)
  go_enter Tryz.func34, Tryz.ntmps34
  go_wp2_with fail
  refine (frexp_any r _ h0 h1).mono ?_
  rintro en w' ⟨f, k, E, rfl, hf, hk, hE0, hE1, hV, rfl⟩
  have HV := Lib.hid hV; clear hV
  obtain ⟨x, hx⟩ : ∃ x, x = 1022 * 2 ^ 52 + f := ⟨_, rfl⟩
  rw [← hx]
  have hx2 : rz (V x) 53 = 1074 * 2 ^ 52 + (2 ^ 52 + f) := by rw [hx]; exact frac_up hf
  have hxI : x < INF := by have := INF_val; omega
  obtain ⟨M, hM⟩ : ∃ M, M = 2 ^ 52 + f := ⟨_, rfl⟩
  rw [← hM] at hx2
  have hc := H1.out M (by omega) (by omega)
  obtain ⟨y, hy⟩ : ∃ y, y = 1074 * 2 ^ 52 + M := ⟨_, rfl⟩
  rw [← hy] at hc hx2
  obtain ⟨e, he⟩ : ∃ e : Int, e = (E : Int) - 1022 - k := ⟨_, rfl⟩
  rw [← he]
  have hb0 : -2000 ≤ e := by omega
  have hb1 : e ≤ 2000 := by omega
  have HE := Lib.hid he; clear he
  have hMB : M < B64 := by rw [B64_def]; omega
  have HX := Lib.hid hx; have HY := Lib.hid hy; have HM := Lib.hid hM
  clear hx hy hM
  go_wp2_with fail
  refine (ldexp_any x 53 _ hxI (by omega) (by omega)).mono ?_
  rintro en w' ⟨rfl, rfl⟩
  rw [hx2]
  go_wp2_with fail
  refine (of_any (M : Int) _ (Int.natCast_nonneg _) (by omega)).mono ?_
  rintro en w1 ⟨v, rfl, hv, hb1⟩
  rw [Int.toNat_natCast] at hv
  have HB1 := Lib.hid hb1; have HVV := Lib.hid hv
  clear hb1 hv
  have h64 : (1 : Int).toNat = 1 := rfl
  have w1l := words_small (m := 1) (by rw [B64_def]; omega)
  have wMl := words_small hMB
  by_cases hneg : 53 ≤ e
  · have hP := parts_high (e := e - 53) hf HV.out hE1 (by have := HE.out; omega) (by omega)
    rw [← HM.out] at hP
    have HP := Lib.hid hP; clear hP
    go_wp2_with fail
    with_reducible refine (left_any _ M (e - 53) _ HVV.out (by omega) (by omega) (by omega)).mono ?_
    rintro en w2 ⟨v1, rfl, hv1, hf1, hb2⟩
    have HV1 := Lib.hid hv1; have HB2 := Lib.hid hb2; clear hv1 hf1 hb2
    go_wp2_with fail
    refine (of_any 1 _ (by omega) (by rw [B64_def]; omega)).mono ?_
    rintro en w3 ⟨v2, rfl, hv2, hb3⟩
    rw [h64] at hv2
    have HV2 := Lib.hid hv2; have HB3 := Lib.hid hb3; clear hv2 hb3
    go_wp2_with fail
    go_ret2
    exact ⟨v1, v2, _, _, rfl, HV1.out.below HB3.out, HV2.out, HP.out, HB1.out.trans ((HB2.out.mono HB1.out.size).trans (HB3.out.mono (by have := HB1.out.size; have := HB2.out.size; omega)))⟩
  · have hP := parts_low (e := e - 53) hf HV.out hE0 hk (by have := HE.out; omega) (by omega)
    rw [← HM.out] at hP
    have HP := Lib.hid hP; clear hP
    go_wp2_with fail
    refine (of_any 1 _ (by omega) (by rw [B64_def]; omega)).mono ?_
    rintro en w2 ⟨v1, rfl, hv1, hb2⟩
    rw [h64] at hv1
    have HV1 := Lib.hid hv1; have HB2 := Lib.hid hb2; clear hv1 hb2
    go_wp2_with fail
    with_reducible refine (left_any _ 1 (-(e - 53)) _ HV1.out (by omega) (by omega) (by omega)).mono ?_
    rintro en w3 ⟨v2, rfl, hv2, hf2, hb3⟩
    rw [Nat.one_mul] at hv2
    have HV2 := Lib.hid hv2; have HB3 := Lib.hid hb3; clear hv2 hf2 hb3
    go_wp2_with fail
    go_ret2
    exact ⟨v, v2, _, _, rfl, HVV.out.below (HB2.out.trans (HB3.out.mono HB2.out.size)), HV2.out, HP.out, HB1.out.trans ((HB2.out.mono HB1.out.size).trans (HB3.out.mono (by have := HB1.out.size; have := HB2.out.size; omega)))⟩

end Go.Proofs.YteophaobcebppaaGreatDoor.dg
