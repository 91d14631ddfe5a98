/- Plain: what binary64's operations give, in rungs. Conditions: none beyond what each says. -/
import Derived.Test.YteophaobcebppaaGreatDoorNear
set_option linter.unusedSimpArgs false
set_option linter.unusedVariables false
namespace Go.Proofs.YteophaobcebppaaGreatDoor.dg
open Ieee

theorem INF_pos : 0 < INF := by decide +kernel
theorem INF_lt : INF < 2 ^ 63 := by decide +kernel
theorem INF_val : INF = 9218868437227405312 := by decide +kernel

/-- what is as much as the greatest number and half a step more, is infinite. -/
theorem near_top {X Y : Nat} (h : Y * V INF ≤ X) : Near X Y INF := by
  have hI : INF % 2 = 0 := by decide +kernel
  refine ⟨Nat.le_refl _, fun _ => ⟨?_, fun _ => hI⟩, fun h => absurd h (by omega)⟩
  have h1 : V (INF - 1) ≤ V INF := V_le (by omega)
  have h2 : Y * (V (INF - 1) + V INF) ≤ Y * (2 * V INF) := Nat.mul_le_mul_left _ (by omega)
  rw [Nat.mul_left_comm] at h2
  omega

theorem rd_V' (r : Nat) : rd (V r) 1 = min r INF := by
  rcases Nat.lt_or_ge INF r with h | h
  · rw [Nat.min_eq_right (by omega)]
    refine (near_rd (by omega) (near_top ?_)).symm
    rw [Nat.one_mul]; exact V_le (by omega)
  · rw [Nat.min_eq_left h]; exact rd_V h

theorem rd_le (X Y : Nat) (hY : 0 < Y) : rd X Y ≤ INF := (rd_near X Y hY).top

theorem rd_congr {X Y X' Y' : Nat} (hY : 0 < Y) (hY' : 0 < Y') (h : X * Y' = X' * Y) : rd X Y = rd X' Y' := by
  rw [← rd_scale X Y Y' hY hY', ← rd_scale X' Y' Y hY' hY, h, Nat.mul_comm Y]

/-- the nearest rung of X 2^k units. -/
def rz (X : Nat) (k : Int) : Nat := rd (X * 2 ^ k.toNat) (2 ^ (-k).toNat)

theorem rz_le (X : Nat) (k : Int) : rz X k ≤ INF := rd_le _ _ (Nat.two_pow_pos _)

theorem rz_shift (X j : Nat) (k : Int) : rz (X * 2 ^ j) k = rz X (k + j) := by
  unfold rz
  refine rd_congr (Nat.two_pow_pos _) (Nat.two_pow_pos _) ?_
  rw [Nat.mul_assoc, Nat.mul_assoc, Nat.mul_assoc, ← Nat.pow_add, ← Nat.pow_add, ← Nat.pow_add]
  congr 2
  omega

theorem rz_nat (X k : Nat) : rz X (k : Int) = rd (X * 2 ^ k) 1 := by
  unfold rz
  have h1 : ((k : Int)).toNat = k := by omega
  have h2 : (-(k : Int)).toNat = 0 := by omega
  rw [h1, h2, Nat.pow_zero]

theorem rz_zero (k : Int) : rz 0 k = 0 := by
  unfold rz
  rw [Nat.zero_mul]
  refine (near_rd (Nat.two_pow_pos _) ?_).symm
  exact ⟨by omega, fun h => absurd h (by omega), fun _ => by simp⟩

/-- every whole number of at most 53 bits, times a power of two, is a rung's value. -/
theorem V_surj (k X : Nat) (h : X ≤ 2 ^ 53) : ∃ r, V r = X * 2 ^ k := by
  induction k generalizing X with
  | zero => exact ⟨X, by rw [V_small h]; simp⟩
  | succ k ih =>
    by_cases hX : 2 ^ 52 ≤ X
    · exact ⟨(k + 1) * 2 ^ 52 + X, V_rung _ _ h (fun _ => hX)⟩
    · obtain ⟨r, hr⟩ := ih (X * 2) (by omega)
      exact ⟨r, by rw [hr, Nat.pow_succ]; simp only [Nat.mul_assoc, Nat.mul_comm, Nat.mul_left_comm]⟩

def TOP : Nat := 2046
theorem V_INF : V INF = 2 ^ 52 * 2 ^ TOP := by
  have e : INF = TOP * 2 ^ 52 + 2 ^ 52 := by unfold INF TOP; omega
  rw [e]
  exact V_rung TOP (2 ^ 52) (Nat.pow_le_pow_right (by omega) (by omega)) (fun _ => Nat.le_refl _)

theorem V_zero : V 0 = 0 := V_small (by omega)
theorem V_pos {r : Nat} (h : 0 < r) : 0 < V r := by have := V_lt h; rw [V_zero] at this; exact this
theorem V_inj_iff {r t : Nat} : V r = V t ↔ r = t := ⟨V_inj, fun h => by rw [h]⟩
theorem V_lt_iff {r t : Nat} : V r < V t ↔ r < t := ⟨fun h => by
  rcases Nat.lt_or_ge r t with h1 | h1
  · exact h1
  · have := V_le h1; omega, V_lt⟩

/-- a rung's number: its digits, its place. -/
def mg (r : Nat) : Nat := if r < 2 ^ 52 then r else 2 ^ 52 + r % 2 ^ 52
def pl (r : Nat) : Nat := r / 2 ^ 52 - 1
theorem V_mg (r : Nat) : V r = mg r * 2 ^ pl r := by
  unfold V mg pl
  split
  · rename_i h
    have : r / 2 ^ 52 - 1 = 0 := by omega
    rw [this]; simp
  · rfl

theorem read_rung {r : Nat} (h : r < INF) : double.read r = .number false (mg r) ((pl r : Nat) - 1074 : Int) := by
  have h63 : r < 2 ^ 63 := Nat.lt_trans h INF_lt
  unfold Format.read
  simp only [double_signWeight, double_binade, double_infRung, double_least]
  have e1 : r / 2 ^ 63 % 2 = 0 := by rw [Nat.div_eq_of_lt h63]
  have e2 : r % 2 ^ 63 = r := Nat.mod_eq_of_lt h63
  rw [e1, e2]
  unfold mg pl
  by_cases h2 : r < 2 ^ 52
  · have : r / 2 ^ 52 - 1 = 0 := by omega
    rw [if_pos h2, if_pos h2, this]; rfl
  · rw [if_neg h2, if_neg h2, if_pos h]
    have e : (-1074 + ((r / 2 ^ 52 - 1 : Nat) : Int)) = ((r / 2 ^ 52 - 1 : Nat) : Int) - 1074 := by omega
    rw [e]; rfl

theorem read_inf : double.read INF = .infinity false := by decide +kernel

theorem word_pos (r : Nat) : double.word false r = r := rfl

theorem nearest_rz (neg : Bool) (mag : Nat) (place : Int) : double.nearest neg mag place = double.word neg (rz mag (place + 1074)) := by
  rw [nearest_eq]
  unfold rz up dn
  have : (-1074 - place).toNat = (-(place + 1074)).toNat := by omega
  rw [this]

theorem mul_rung {a b : Nat} (ha : a < INF) (hb : b < INF) : double.mul a b = some (rz (V a * V b) (-1074)) := by
  unfold Format.mul
  rw [read_rung ha, read_rung hb]
  simp only [Datum.product, Option.map_some, Format.write, nearest_rz, Bool.xor_self]
  refine congrArg some ?_
  rw [word_pos, V_mg a, V_mg b]
  have e : mg a * 2 ^ pl a * (mg b * 2 ^ pl b) = mg a * mg b * 2 ^ (pl a + pl b) := by
    rw [Nat.pow_add]; simp only [Nat.mul_assoc, Nat.mul_left_comm, Nat.mul_comm]
  rw [e, rz_shift]
  have e2 : ((pl a : Nat) - 1074 : Int) + ((pl b : Nat) - 1074 : Int) + 1074 = -1074 + ((pl a + pl b : Nat) : Int) := by omega
  rw [e2]

theorem signed_false (m u : Nat) : signed false m u = ((m * 2 ^ u : Nat) : Int) := by
  unfold signed; simp [Nat.shiftLeft_eq]

theorem order_rung {a b : Nat} (ha : a < INF) (hb : b < INF) : double.order a b = some (compare a b) := by
  unfold Format.order
  rw [read_rung ha, read_rung hb]
  simp only [Datum.order, signed_false]
  refine congrArg some ?_
  have h1 := V_mg a
  have h2 := V_mg b
  generalize hmin : min ((pl a : Nat) - 1074 : Int) ((pl b : Nat) - 1074 : Int) = base
  obtain ⟨c, hc⟩ : ∃ c : Nat, c = (base + 1074).toNat := ⟨_, rfl⟩
  have e1 : mg a * 2 ^ (((pl a : Nat) - 1074 : Int) - base).toNat * 2 ^ c = V a := by
    rw [h1, Nat.mul_assoc, ← Nat.pow_add]; congr 2; omega
  have e2 : mg b * 2 ^ (((pl b : Nat) - 1074 : Int) - base).toNat * 2 ^ c = V b := by
    rw [h2, Nat.mul_assoc, ← Nat.pow_add]; congr 2; omega
  generalize mg a * 2 ^ (((pl a : Nat) - 1074 : Int) - base).toNat = x at *
  generalize mg b * 2 ^ (((pl b : Nat) - 1074 : Int) - base).toNat = y at *
  have hp := Nat.two_pow_pos c
  have k1 : x < y ↔ a < b := by
    have hv := V_lt_iff (r := a) (t := b)
    rw [← e1, ← e2] at hv
    exact ⟨fun h => hv.1 (Nat.mul_lt_mul_of_pos_right h hp), fun h => Nat.lt_of_mul_lt_mul_right (hv.2 h)⟩
  have k2 : x = y ↔ a = b := by
    have hv := V_inj_iff (r := a) (t := b)
    rw [← e1, ← e2] at hv
    exact ⟨fun h => hv.1 (by rw [h]), fun h => Nat.eq_of_mul_eq_mul_right hp (hv.2 h)⟩
  have k3 : ((x : Int) < (y : Int)) ↔ a < b := by rw [← k1]; omega
  have k4 : ((x : Int) = (y : Int)) ↔ a = b := by rw [← k2]; omega
  show compareOfLessAndEq (x : Int) (y : Int) = compareOfLessAndEq a b
  unfold compareOfLessAndEq
  simp only [k3, k4]

end Go.Proofs.YteophaobcebppaaGreatDoor.dg
