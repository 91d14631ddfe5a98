/- Plain: the shortest digits of a number: what they are, that there is just one row of them, that seventeen are enough. Conditions: none beyond what each says. -/
import Derived.Test.YteophaobcebppaaGreatDoorBelow
namespace Go.Proofs.YteophaobcebppaaGreatDoor.dg
open Ieee
set_option linter.unusedVariables false

theorem decv_one (d : Nat) (k : Int) : decv d k = rd (d * 10 ^ k.toNat * ONE 1074) (10 ^ (-k).toNat) := by
  unfold decv ONE; rfl

/-- a number's gaps are not narrow. -/
theorem gap_up (r : Nat) : V r ≤ 2 ^ 53 * (V (r + 1) - V r) := by
  obtain ⟨s, k, rfl, h1, h2⟩ := rung_split r
  rw [V_rung s k (by omega) h2, Nat.add_assoc, V_rung s (k + 1) (by omega) (by intro h; have := h2 h; omega), Nat.add_mul, Nat.one_mul, Nat.add_sub_cancel_left]
  exact Nat.mul_le_mul_right _ (by omega)
theorem gap_down {r : Nat} (h : 0 < r) : V r ≤ 2 ^ 53 * (V r - V (r - 1)) := by
  obtain ⟨s, k, rfl, h1, h2⟩ := rung_split r
  by_cases hk : s = 0 ∨ 2 ^ 52 < k
  · have e : s * 2 ^ 52 + k - 1 = s * 2 ^ 52 + (k - 1) := by omega
    have hk1 : 1 ≤ k := by omega
    rw [e, V_rung s k (by omega) h2, V_rung s (k - 1) (by omega) (by omega)]
    have e2 : k * 2 ^ s - (k - 1) * 2 ^ s = 2 ^ s := by
      rw [← Nat.sub_mul, show k - (k - 1) = 1 by omega, Nat.one_mul]
    rw [e2]
    exact Nat.mul_le_mul_right _ (by omega)
  · have hk2 : k = 2 ^ 52 := by have := h2 (by omega); omega
    subst hk2
    obtain ⟨t, rfl⟩ : ∃ t, s = t + 1 := ⟨s - 1, by omega⟩
    have e : (t + 1) * 2 ^ 52 + 2 ^ 52 - 1 = t * 2 ^ 52 + (2 ^ 53 - 1) := by omega
    rw [e, V_rung (t + 1) (2 ^ 52) (by omega) h2, V_rung t (2 ^ 53 - 1) (by omega) (by omega), show 2 ^ (t + 1) = 2 ^ t * 2 from Nat.pow_succ ..]
    have e2 : 2 ^ 52 * (2 ^ t * 2) - (2 ^ 53 - 1) * 2 ^ t = 2 ^ t := by
      have : 2 ^ 52 * (2 ^ t * 2) = 2 ^ 53 * 2 ^ t := by rw [Nat.mul_comm (2 ^ t) 2, ← Nat.mul_assoc]
      rw [this, ← Nat.sub_mul]; simp
    rw [e2, show 2 ^ 52 * (2 ^ t * 2) = 2 ^ 53 * 2 ^ t by rw [Nat.mul_comm (2 ^ t) 2, ← Nat.mul_assoc]]
    exact Nat.le_refl _

/-- what lies within half a part in ten to the sixteenth of a number is nearest to it. -/
theorem near_close {X Y r : Nat} (hr : 0 < r) (hI : r < INF) (hY : 0 < Y) (h1 : 2 * 10 ^ 16 * X ≤ (2 * 10 ^ 16 + 1) * (Y * V r)) (h2 : (2 * 10 ^ 16 - 1) * (Y * V r) ≤ 2 * 10 ^ 16 * X) : Near X Y r := by
  have hVp := V_pos hr
  have gu := gap_up r
  have gd := gap_down hr
  have lu : V r < V (r + 1) := V_succ r
  have ld : V (r - 1) < V r := V_lt (by omega)
  obtain ⟨a, ha⟩ : ∃ a, V (r + 1) = V r + a := ⟨V (r + 1) - V r, by omega⟩
  obtain ⟨b, hb⟩ : ∃ b, V r = V (r - 1) + b := ⟨V r - V (r - 1), by omega⟩
  have gu2 : V r ≤ 2 ^ 53 * a := by rw [ha, Nat.add_sub_cancel_left] at gu; exact gu
  have gd2 : V r ≤ 2 ^ 53 * b := by
    have : V r - V (r - 1) = b := by omega
    rwa [this] at gd
  have yu : Y * V r ≤ 2 ^ 53 * (Y * a) := by
    have := Nat.mul_le_mul_left Y gu2
    rw [Nat.mul_left_comm] at this; exact this
  have yd : Y * V r ≤ 2 ^ 53 * (Y * b) := by
    have := Nat.mul_le_mul_left Y gd2
    rw [Nat.mul_left_comm] at this; exact this
  have yp : 0 < Y * V r := Nat.mul_pos hY hVp
  have e1 : Y * (V r + V (r + 1)) = 2 * (Y * V r) + Y * a := by rw [ha]; simp only [Nat.mul_add]; omega
  have e2 : Y * (V (r - 1) + V r) + Y * b = 2 * (Y * V r) := by
    have : Y * V r = Y * V (r - 1) + Y * b := by rw [← Nat.mul_add, ← hb]
    simp only [Nat.mul_add]; omega
  refine ⟨by omega, fun _ => ?_, fun _ => ?_⟩
  · have : Y * (V (r - 1) + V r) < 2 * X := by omega
    exact ⟨by omega, by omega⟩
  · have : 2 * X < Y * (V r + V (r + 1)) := by omega
    exact ⟨by omega, by omega⟩

/-- where the point of a number stands. -/
def Place (r : Nat) (p : Int) : Prop := lt10 (V r) (ONE 1074) p = true ∧ lt10 (V r) (ONE 1074) (p - 1) = false

def numS (r : Nat) (p : Int) (n : Nat) : Nat := V r * 10 ^ ((n : Int) - p).toNat
def denS (p : Int) (n : Nat) : Nat := ONE 1074 * 10 ^ (p - (n : Int)).toNat

/-- which n digits, if any, are read as the number: the nearest, of two the even ones. -/
def pick (r : Nat) (p : Int) (n : Nat) : Option Nat :=
  let q := numS r p n / denS p n
  let t := numS r p n % denS p n
  let lo := decide (decv q (p - n) = r)
  let hi := decide (decv (q + 1) (p - n) = r)
  if lo = false ∧ hi = false then none
  else if lo = false ∨ hi = true ∧ (denS p n < 2 * t ∨ 2 * t = denS p n ∧ q % 2 = 1) then some (q + 1) else some q

/-- l are a number's shortest digits, and its point stands behind so many. -/
def IsShort (r : Nat) (l : List UInt8) (at_ : Int) : Prop :=
  ∃ (p : Int) (n q : Nat), Place r p ∧ 1 ≤ n ∧ n ≤ 17 ∧ (∀ j, 1 ≤ j → j < n → pick r p j = none) ∧ pick r p n = some q ∧ l = Lib.trimRightB (Lib.decDigits q) 48 ∧ at_ = p - n + (Lib.decDigits q).length

theorem lt10_iff (A B : Nat) (n : Int) : lt10 A B n = true ↔ A * 10 ^ (-n).toNat < B * 10 ^ n.toNat := by unfold lt10; exact decide_eq_true_iff
theorem lt10_false (A B : Nat) (n : Int) : lt10 A B n = false ↔ B * 10 ^ n.toNat ≤ A * 10 ^ (-n).toNat := by
  unfold lt10; rw [decide_eq_false_iff_not]; exact Nat.not_lt

theorem lt10_up {A B : Nat} {m n : Int} (hmn : m ≤ n) (h : lt10 A B m = true) : lt10 A B n = true := by
  rw [lt10_iff] at h ⊢
  obtain ⟨j, rfl⟩ : ∃ j : Nat, n = m + j := ⟨(n - m).toNat, by omega⟩
  have e : (-m).toNat + (m + j).toNat = m.toNat + (-(m + j)).toNat + j := by omega
  have hp : 0 < 10 ^ (-m).toNat := Nat.pow_pos (by omega)
  refine Nat.lt_of_mul_lt_mul_right (a := 10 ^ (-m).toNat) ?_
  have h1 : A * 10 ^ (-(m + j)).toNat * 10 ^ (-m).toNat < B * 10 ^ m.toNat * 10 ^ (-(m + j)).toNat := by
    rw [Nat.mul_right_comm]; exact Nat.mul_lt_mul_of_pos_right h (Nat.pow_pos (by omega))
  refine Nat.lt_of_lt_of_le h1 ?_
  rw [Nat.mul_assoc, Nat.mul_assoc, ← Nat.pow_add, ← Nat.pow_add]
  refine Nat.mul_le_mul_left _ (Nat.pow_le_pow_right (by omega) (by omega))

theorem place_unique {r : Nat} {p q : Int} (hp : Place r p) (hq : Place r q) : p = q := by
  rcases Int.lt_trichotomy p q with h | h | h
  · have := lt10_up (show p ≤ q - 1 by omega) hp.1
    rw [hq.2] at this; exact absurd this (by simp)
  · exact h
  · have := lt10_up (show q ≤ p - 1 by omega) hq.1
    rw [hp.2] at this; exact absurd this (by simp)

theorem isShort_unique {r : Nat} {l l' : List UInt8} {a a' : Int} (h : IsShort r l a) (h' : IsShort r l' a') : l = l' ∧ a = a' := by
  obtain ⟨p, n, q, hp, h1, h2, h3, h4, rfl, rfl⟩ := h
  obtain ⟨p', n', q', hp', h1', h2', h3', h4', rfl, rfl⟩ := h'
  obtain rfl := place_unique hp hp'
  have hn : n = n' := by
    rcases Nat.lt_trichotomy n n' with h | h | h
    · have := h3' n h1 h; rw [h4] at this; cases this
    · exact h
    · have := h3 n' h1' h; rw [h4'] at this; cases this
  subst hn
  rw [h4] at h4'
  cases h4'
  exact ⟨rfl, rfl⟩

theorem denS_pos (p : Int) (n : Nat) : 0 < denS p n := Nat.mul_pos (ONE_pos _) (Nat.pow_pos (by omega))

/-- d in the place that n digits reach is read as what rounds d parts of that place. -/
theorem decv_rd (d : Nat) (p : Int) (n : Nat) : decv d (p - n) = rd (d * denS p n) (10 ^ ((n : Int) - p).toNat) := by
  rw [decv_one]
  unfold denS
  have e : (-(p - (n : Int))).toNat = ((n : Int) - p).toNat := by omega
  rw [e, Nat.mul_assoc, Nat.mul_comm (10 ^ (p - (n : Int)).toNat)]

theorem pick17 {r : Nat} {p : Int} (h0 : 0 < r) (hI : r < INF) (hp : Place r p) : pick r p 17 ≠ none := by
  have hden := denS_pos p 17
  have hY : 0 < 10 ^ (((17 : Nat) : Int) - p).toNat := Nat.pow_pos (by omega)
  have hN : numS r p 17 = 10 ^ (((17 : Nat) : Int) - p).toNat * V r := Nat.mul_comm _ _
  have hge : 10 ^ 16 * denS p 17 ≤ numS r p 17 := by
    have h := hp.2
    rw [lt10_false] at h
    unfold denS numS
    have hpp : 0 < 10 ^ (-(p - 1)).toNat := Nat.pow_pos (by omega)
    refine Nat.le_of_mul_le_mul_right (c := 10 ^ (-(p - 1)).toNat) ?_ hpp
    have e1 : 10 ^ 16 * (ONE 1074 * 10 ^ (p - ((17 : Nat) : Int)).toNat) * 10 ^ (-(p - 1)).toNat = ONE 1074 * 10 ^ (16 + (p - ((17 : Nat) : Int)).toNat + (-(p - 1)).toNat) := by
      rw [Nat.pow_add, Nat.pow_add]; simp only [Nat.mul_assoc, Nat.mul_comm]
    have e2 : 16 + (p - ((17 : Nat) : Int)).toNat + (-(p - 1)).toNat = (p - 1).toNat + (((17 : Nat) : Int) - p).toNat := by omega
    rw [e1, e2, Nat.pow_add, ← Nat.mul_assoc]
    have := Nat.mul_le_mul_right (10 ^ (((17 : Nat) : Int) - p).toNat) h
    refine Nat.le_trans this (Nat.le_of_eq ?_)
    simp only [Nat.mul_left_comm, Nat.mul_comm]
  intro hn
  unfold pick at hn
  simp only at hn
  rw [decv_rd, decv_rd] at hn
  generalize denS p 17 = D at *
  generalize numS r p 17 = N at *
  generalize 10 ^ (((17 : Nat) : Int) - p).toNat = Y at *
  have hdm := Nat.div_add_mod N D
  have hml : N % D < D := Nat.mod_lt _ hden
  have hcase : rd (N / D * D) Y = r ∨ rd ((N / D + 1) * D) Y = r := by
    rw [Nat.mul_comm D] at hdm
    by_cases hc : 2 * (N % D) ≤ D
    · left
      refine (near_rd hY (near_close h0 hI hY ?_ ?_)).symm
      · rw [← hN]; omega
      · rw [← hN]; omega
    · right
      have e : (N / D + 1) * D = N / D * D + D := by rw [Nat.add_mul, Nat.one_mul]
      refine (near_rd hY (near_close h0 hI hY ?_ ?_)).symm
      · rw [← hN, e]; omega
      · rw [← hN, e]; omega
  rcases hcase with h | h
  · rw [decide_eq_true h] at hn
    simp only [Bool.true_eq_false, false_and, if_false] at hn
    split at hn <;> cases hn
  · rw [decide_eq_true h] at hn
    simp only [Bool.true_eq_false, and_false, if_false] at hn
    split at hn <;> cases hn

end Go.Proofs.YteophaobcebppaaGreatDoor.dg
