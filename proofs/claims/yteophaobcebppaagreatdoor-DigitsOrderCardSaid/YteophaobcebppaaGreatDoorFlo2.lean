/- Plain: binary64's words with their signs, and how they stand to each other. Conditions: none beyond what each says. -/
import Derived.Test.YteophaobcebppaaGreatDoorFlo
import Derived.Test.YteophaobcebppaaGreatDoorWords
set_option linter.unusedSimpArgs false
set_option linter.unusedVariables false
namespace Go.Proofs.YteophaobcebppaaGreatDoor.dg
open Ieee

/-- is a word no number? -/
def isNaN (x : Nat) : Bool := decide (INF < x % 2 ^ 63)
/-- where a word stands: its rung, with its sign (both noughts at 0). -/
def key (x : Nat) : Int := if x < 2 ^ 63 then (x : Int) else -((x % 2 ^ 63 : Nat) : Int)

theorem word_parts {x : Nat} (hx : x < B64) : (x / 2 ^ 63 % 2 == 1) = decide (2 ^ 63 ≤ x) := by
  rw [B64_def] at hx
  by_cases h : 2 ^ 63 ≤ x
  · have : x / 2 ^ 63 = 1 := by omega
    simp [h, this]
  · have : x / 2 ^ 63 = 0 := by omega
    simp [h, this]

theorem read_fin {x : Nat} (hx : x < B64) (h : x % 2 ^ 63 < INF) : double.read x = .number (decide (2 ^ 63 ≤ x)) (mg (x % 2 ^ 63)) ((pl (x % 2 ^ 63) : Nat) - 1074 : Int) := by
  have e := read_rung h
  unfold Format.read at e ⊢
  simp only [double_signWeight, double_binade, double_infRung, double_least] at e ⊢
  rw [word_parts hx]
  have e1 : x % 2 ^ 63 / 2 ^ 63 % 2 = 0 := by omega
  have e2 : x % 2 ^ 63 % 2 ^ 63 = x % 2 ^ 63 := by omega
  rw [e1, e2] at e
  by_cases h2 : x % 2 ^ 63 < 2 ^ 52
  · rw [if_pos h2] at e ⊢
    simp only [Datum.number.injEq] at e ⊢
    exact ⟨trivial, e.2⟩
  · rw [if_neg h2, if_pos h] at e ⊢
    simp only [Datum.number.injEq] at e ⊢
    exact ⟨trivial, e.2⟩

theorem read_infw {x : Nat} (hx : x < B64) (h : x % 2 ^ 63 = INF) : double.read x = .infinity (decide (2 ^ 63 ≤ x)) := by
  unfold Format.read
  simp only [double_signWeight, double_binade, double_infRung, double_least]
  rw [word_parts hx, h, if_neg (by decide +kernel), if_neg (by omega), if_pos rfl]

theorem read_nan {x : Nat} (hx : x < B64) (h : INF < x % 2 ^ 63) : ∃ f, double.read x = .nan (decide (2 ^ 63 ≤ x)) f := by
  unfold Format.read
  simp only [double_signWeight, double_binade, double_infRung, double_least]
  have h1 : ¬ x % 2 ^ 63 < 2 ^ 52 := by have := INF_val; omega
  rw [word_parts hx, if_neg h1, if_neg (by omega), if_neg (by omega)]
  exact ⟨_, rfl⟩

theorem order_nan_left {x y : Nat} (hx : x < B64) (h : isNaN x = true) : double.order x y = none := by
  obtain ⟨f, e⟩ := read_nan hx (by simpa [isNaN] using h)
  unfold Format.order
  rw [e]; rfl
theorem order_nan_right {x y : Nat} (hy : y < B64) (h : isNaN y = true) : double.order x y = none := by
  obtain ⟨f, e⟩ := read_nan hy (by simpa [isNaN] using h)
  unfold Format.order
  rw [e]
  cases double.read x <;> rfl

theorem signed_eq (s : Bool) (m u : Nat) : signed s m u = if s = true then -((m * 2 ^ u : Nat) : Int) else ((m * 2 ^ u : Nat) : Int) := by
  unfold signed; simp only [Nat.shiftLeft_eq]

theorem cmp_int_congr {a b c d : Int} (h1 : a < b ↔ c < d) (h2 : a = b ↔ c = d) : compare a b = compare c d := by
  show compareOfLessAndEq a b = compareOfLessAndEq c d
  unfold compareOfLessAndEq
  simp only [h1, h2]

theorem cmp_lt {a b : Int} (h : a < b) : compare a b = .lt := by
  show compareOfLessAndEq a b = _
  unfold compareOfLessAndEq; rw [if_pos h]
theorem cmp_gt {a b : Int} (h : b < a) : compare a b = .gt := by
  show compareOfLessAndEq a b = _
  unfold compareOfLessAndEq; rw [if_neg (by omega), if_neg (by omega)]
theorem cmp_eq {a b : Int} (h : a = b) : compare a b = .eq := by
  show compareOfLessAndEq a b = _
  unfold compareOfLessAndEq; rw [if_neg (by omega), if_pos h]

theorem key_parts {x : Nat} (hx : x < B64) : key x = if decide (2 ^ 63 ≤ x) = true then -((x % 2 ^ 63 : Nat) : Int) else ((x % 2 ^ 63 : Nat) : Int) := by
  rw [B64_def] at hx
  unfold key
  by_cases h : x < 2 ^ 63
  · have h1 : ¬ 2 ^ 63 ≤ x := by omega
    have h2 : x % 2 ^ 63 = x := Nat.mod_eq_of_lt h
    rw [if_pos h, decide_eq_false h1, if_neg (by decide), h2]
  · have h1 : 2 ^ 63 ≤ x := by omega
    rw [if_neg h, decide_eq_true h1, if_pos rfl]

/-- how two words stand that are numbers. -/
theorem order_key {x y : Nat} (hx : x < B64) (hy : y < B64) (nx : isNaN x = false) (ny : isNaN y = false) : double.order x y = some (compare (key x) (key y)) := by
  have hx' : x % 2 ^ 63 ≤ INF := by simpa [isNaN] using nx
  have hy' : y % 2 ^ 63 ≤ INF := by simpa [isNaN] using ny
  rw [key_parts hx, key_parts hy]
  unfold Format.order
  generalize hsx : decide (2 ^ 63 ≤ x) = sx
  generalize hsy : decide (2 ^ 63 ≤ y) = sy
  generalize hr : x % 2 ^ 63 = r at *
  generalize ht : y % 2 ^ 63 = t at *
  have hI := INF_pos
  by_cases h1 : r = INF
  · rw [read_infw hx (by rw [hr]; exact h1), hsx]
    by_cases h2 : t = INF
    · rw [read_infw hy (by rw [ht]; exact h2), hsy]
      simp only [Datum.order]
      subst h1; subst h2
      cases sx <;> cases sy
      · simp only [Bool.toNat_false]; rw [cmp_eq]; · rfl
        · rfl
      · simp only [Bool.toNat_false, Bool.toNat_true]; rw [cmp_gt]; · rfl
        · simp; omega
      · simp only [Bool.toNat_false, Bool.toNat_true]; rw [cmp_lt]; · rfl
        · simp; omega
      · simp only [Bool.toNat_true]; rw [cmp_eq]; · rfl
        · rfl
    · rw [read_fin hy (by rw [ht]; omega), hsy, ht]
      simp only [Datum.order]
      cases sx
      · simp only [Bool.false_eq_true, if_false]; rw [cmp_gt]; split <;> omega
      · simp only [if_true]; rw [cmp_lt]; split <;> omega
  · rw [read_fin hx (by rw [hr]; omega), hsx, hr]
    by_cases h2 : t = INF
    · rw [read_infw hy (by rw [ht]; exact h2), hsy]
      simp only [Datum.order]
      cases sy
      · simp only [Bool.false_eq_true, if_false]; rw [cmp_lt]; split <;> omega
      · simp only [if_true]; rw [cmp_gt]; split <;> omega
    · rw [read_fin hy (by rw [ht]; omega), hsy, ht]
      simp only [Datum.order, signed_eq]
      refine congrArg some ?_
      have v1 := V_mg r
      have v2 := V_mg t
      generalize hmin : min ((pl r : Nat) - 1074 : Int) ((pl t : Nat) - 1074 : Int) = base
      obtain ⟨c, hc⟩ : ∃ c : Nat, c = (base + 1074).toNat := ⟨_, rfl⟩
      have e1 : mg r * 2 ^ (((pl r : Nat) - 1074 : Int) - base).toNat * 2 ^ c = V r := by
        rw [v1, Nat.mul_assoc, ← Nat.pow_add]; congr 2; omega
      have e2 : mg t * 2 ^ (((pl t : Nat) - 1074 : Int) - base).toNat * 2 ^ c = V t := by
        rw [v2, Nat.mul_assoc, ← Nat.pow_add]; congr 2; omega
      generalize mg r * 2 ^ (((pl r : Nat) - 1074 : Int) - base).toNat = a at *
      generalize mg t * 2 ^ (((pl t : Nat) - 1074 : Int) - base).toNat = b at *
      have hp := Nat.two_pow_pos c
      have k1 : a < b ↔ r < t := by
        have hv := V_lt_iff (r := r) (t := t)
        rw [← e1, ← e2] at hv
        exact ⟨fun h => hv.1 (Nat.mul_lt_mul_of_pos_right h hp), fun h => Nat.lt_of_mul_lt_mul_right (hv.2 h)⟩
      have k2 : a = b ↔ r = t := by
        have hv := V_inj_iff (r := r) (t := t)
        rw [← e1, ← e2] at hv
        exact ⟨fun h => hv.1 (by rw [h]), fun h => Nat.eq_of_mul_eq_mul_right hp (hv.2 h)⟩
      have k3 : a = 0 ↔ r = 0 := by
        have hv := V_inj_iff (r := r) (t := 0)
        rw [← e1, V_zero] at hv
        exact ⟨fun h => hv.1 (by rw [h, Nat.zero_mul]), fun h => by rcases Nat.mul_eq_zero.1 (hv.2 h) with h | h <;> omega⟩
      have k4 : b = 0 ↔ t = 0 := by
        have hv := V_inj_iff (r := t) (t := 0)
        rw [← e2, V_zero] at hv
        exact ⟨fun h => hv.1 (by rw [h, Nat.zero_mul]), fun h => by rcases Nat.mul_eq_zero.1 (hv.2 h) with h | h <;> omega⟩
      refine cmp_int_congr ?_ ?_ <;> (cases sx <;> cases sy <;> simp only [Bool.false_eq_true, if_false, if_true] <;> omega)

end Go.Proofs.YteophaobcebppaaGreatDoor.dg
