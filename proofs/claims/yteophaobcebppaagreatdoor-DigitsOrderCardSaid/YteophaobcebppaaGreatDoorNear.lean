/- Plain: rounding to binary64: rungs, their values, the nearest rung of a fraction. Conditions: none beyond what each says. -/
import Ieee.Arith
set_option linter.unusedSimpArgs false
set_option linter.unusedVariables false
namespace Go.Proofs.YteophaobcebppaaGreatDoor.dg
open Ieee

/-- The value of a rung, in units of the least subnormal. -/
def V (r : Nat) : Nat := if r < 2 ^ 52 then r else (2 ^ 52 + r % 2 ^ 52) * 2 ^ (r / 2 ^ 52 - 1)

def INF : Nat := 2047 * 2 ^ 52

/-- r is the rung nearest to X / Y units, of two the even one. -/
structure Near (X Y r : Nat) : Prop where
  top : r ≤ INF
  low : 0 < r → Y * (V (r - 1) + V r) ≤ 2 * X ∧ (Y * (V (r - 1) + V r) = 2 * X → r % 2 = 0)
  high : r < INF → 2 * X ≤ Y * (V r + V (r + 1)) ∧ (2 * X = Y * (V r + V (r + 1)) → r % 2 = 0)

theorem V_small {r : Nat} (h : r ≤ 2 ^ 53) : V r = r := by
  unfold V
  split
  · rfl
  · rename_i h1
    by_cases h2 : r < 2 ^ 53
    · have : r / 2 ^ 52 = 1 := by omega
      rw [this]; omega
    · have : r = 2 ^ 53 := by omega
      subst this; rfl

/-- the rung of k units of 2^s. -/
theorem V_rung (s k : Nat) (h1 : k ≤ 2 ^ 53) (h2 : 0 < s → 2 ^ 52 ≤ k) : V (s * 2 ^ 52 + k) = k * 2 ^ s := by
  by_cases hs : s = 0
  · subst hs; simp; exact V_small h1
  · have h3 := h2 (by omega)
    unfold V
    rw [if_neg (by omega)]
    by_cases h4 : k < 2 ^ 53
    · have e1 : (s * 2 ^ 52 + k) / 2 ^ 52 = s + 1 := by omega
      have e2 : (s * 2 ^ 52 + k) % 2 ^ 52 = k - 2 ^ 52 := by omega
      rw [e1, e2]
      have e3 : 2 ^ 52 + (k - 2 ^ 52) = k := by omega
      rw [e3]; simp
    · have : k = 2 ^ 53 := by omega
      subst this
      have e1 : (s * 2 ^ 52 + 2 ^ 53) / 2 ^ 52 = s + 2 := by omega
      have e2 : (s * 2 ^ 52 + 2 ^ 53) % 2 ^ 52 = 0 := by omega
      rw [e1, e2]
      have e3 : s + 2 - 1 = s + 1 := by omega
      rw [e3, Nat.pow_succ]; omega

/-- every rung is k units of 2^s, with k below 2^53. -/
theorem rung_split (r : Nat) : ∃ s k, r = s * 2 ^ 52 + k ∧ k < 2 ^ 53 ∧ (0 < s → 2 ^ 52 ≤ k) := by
  by_cases h : r < 2 ^ 52
  · exact ⟨0, r, by omega, by omega, by omega⟩
  · refine ⟨r / 2 ^ 52 - 1, 2 ^ 52 + r % 2 ^ 52, by omega, by omega, by omega⟩

theorem V_succ (r : Nat) : V r < V (r + 1) := by
  obtain ⟨s, k, rfl, h1, h2⟩ := rung_split r
  rw [V_rung s k (by omega) h2, Nat.add_assoc, V_rung s (k + 1) (by omega) (by intro h; have := h2 h; omega)]
  exact Nat.mul_lt_mul_of_pos_right (by omega) (Nat.two_pow_pos _)

theorem V_lt {r t : Nat} (h : r < t) : V r < V t := by
  induction t with
  | zero => omega
  | succ t ih =>
    by_cases e : r = t
    · subst e; exact V_succ r
    · exact Nat.lt_trans (ih (by omega)) (V_succ t)

theorem V_le {r t : Nat} (h : r ≤ t) : V r ≤ V t := by
  by_cases e : r = t
  · subst e; exact Nat.le_refl _
  · exact Nat.le_of_lt (V_lt (by omega))

theorem V_inj {r t : Nat} (h : V r = V t) : r = t := by
  rcases Nat.lt_trichotomy r t with h1 | h1 | h1
  · have := V_lt h1; omega
  · exact h1
  · have := V_lt h1; omega

theorem Near.lt_false {X Y r t : Nat} (hY : 0 < Y) (a : Near X Y r) (b : Near X Y t) (h : r < t) : False := by
  have ha := a.high (by have := b.top; omega)
  have hb := b.low (by omega)
  have h1 : V r + V (r + 1) ≤ V (t - 1) + V t := by
    have := V_le (r := r) (t := t - 1) (by omega)
    have := V_le (r := r + 1) (t := t) (by omega)
    omega
  have h2 : Y * (V r + V (r + 1)) ≤ Y * (V (t - 1) + V t) := Nat.mul_le_mul_left _ h1
  have h3 : Y * (V r + V (r + 1)) = Y * (V (t - 1) + V t) := by omega
  have h4 := Nat.eq_of_mul_eq_mul_left hY h3
  have h5 : t = r + 1 := by
    have a1 := V_le (r := r) (t := t - 1) (by omega)
    have a2 := V_le (r := r + 1) (t := t) (by omega)
    have : V r = V (t - 1) := by omega
    have := V_inj this
    omega
  have e1 := ha.2 (by omega)
  have e2 := hb.2 (by omega)
  omega

theorem Near.unique {X Y r t : Nat} (hY : 0 < Y) (a : Near X Y r) (b : Near X Y t) : r = t := by
  rcases Nat.lt_trichotomy r t with h | h | h
  · exact (Near.lt_false hY a b h).elim
  · exact h
  · exact (Near.lt_false hY b a h).elim

/-- what rounds to k at the place s, rounds to the rung of k there. -/
theorem near_of_round (X Y s k : Nat) (hY : 0 < Y) (hk : k ≤ 2 ^ 53) (h52 : 0 < s → Y * 2 ^ s * 2 ^ 52 ≤ X) (h53 : X < Y * 2 ^ s * 2 ^ 53)
    (hlow : 0 < k → Y * 2 ^ s * (2 * k - 1) ≤ 2 * X ∧ (Y * 2 ^ s * (2 * k - 1) = 2 * X → k % 2 = 0))
    (hhigh : 2 * X ≤ Y * 2 ^ s * (2 * k + 1) ∧ (2 * X = Y * 2 ^ s * (2 * k + 1) → k % 2 = 0)) :
    Near X Y (min (s * 2 ^ 52 + k) INF) := by
  have hp := Nat.two_pow_pos s
  have hYs : 0 < Y * 2 ^ s := Nat.mul_pos hY hp
  have hk52 : 0 < s → 2 ^ 52 ≤ k := by
    intro h
    have h1 := h52 h
    have h2 : 2 * (Y * 2 ^ s * 2 ^ 52) ≤ Y * 2 ^ s * (2 * k + 1) := by omega
    rw [show 2 * (Y * 2 ^ s * 2 ^ 52) = Y * 2 ^ s * (2 * 2 ^ 52) from by rw [Nat.mul_left_comm]] at h2
    have := Nat.le_of_mul_le_mul_left h2 hYs
    omega
  have hVk := V_rung s k hk hk52
  -- below
  have low : 0 < s * 2 ^ 52 + k → Y * (V (s * 2 ^ 52 + k - 1) + V (s * 2 ^ 52 + k)) ≤ 2 * X ∧ (Y * (V (s * 2 ^ 52 + k - 1) + V (s * 2 ^ 52 + k)) = 2 * X → (s * 2 ^ 52 + k) % 2 = 0) := by
    intro h0
    by_cases hc : 0 < s ∧ k = 2 ^ 52
    · obtain ⟨hs, rfl⟩ := hc
      have h1 := h52 hs
      have h2 : V (s * 2 ^ 52 + 2 ^ 52 - 1) < V (s * 2 ^ 52 + 2 ^ 52) := V_lt (by omega)
      rw [hVk] at h2 ⊢
      have h3 : Y * (V (s * 2 ^ 52 + 2 ^ 52 - 1) + 2 ^ 52 * 2 ^ s) < Y * (2 * (2 ^ 52 * 2 ^ s)) := Nat.mul_lt_mul_of_pos_left (by omega) hY
      have h4 : Y * (2 * (2 ^ 52 * 2 ^ s)) = 2 * (Y * 2 ^ s * 2 ^ 52) := by
        rw [Nat.mul_left_comm, Nat.mul_comm (2 ^ 52) (2 ^ s), Nat.mul_assoc]
      refine ⟨by omega, by omega⟩
    · have hk0 : 0 < k := by
        by_cases hs : 0 < s
        · have := hk52 hs; omega
        · omega
      have e1 : V (s * 2 ^ 52 + k - 1) = (k - 1) * 2 ^ s := by
        rw [Nat.add_sub_assoc hk0]
        exact V_rung s (k - 1) (by omega) (by intro h; have := hk52 h; have : k ≠ 2 ^ 52 := fun e => hc ⟨h, e⟩; omega)
      have e2 : Y * (V (s * 2 ^ 52 + k - 1) + V (s * 2 ^ 52 + k)) = Y * 2 ^ s * (2 * k - 1) := by
        rw [e1, hVk, ← Nat.add_mul, show k - 1 + k = 2 * k - 1 from by omega, Nat.mul_comm (2 * k - 1), Nat.mul_assoc]
      rw [e2]
      obtain ⟨a, b⟩ := hlow hk0
      exact ⟨a, fun e => by have := b e; omega⟩
  have high : 2 * X ≤ Y * (V (s * 2 ^ 52 + k) + V (s * 2 ^ 52 + k + 1)) ∧ (2 * X = Y * (V (s * 2 ^ 52 + k) + V (s * 2 ^ 52 + k + 1)) → (s * 2 ^ 52 + k) % 2 = 0) := by
    by_cases hc : k = 2 ^ 53
    · subst hc
      have h2 : V (s * 2 ^ 52 + 2 ^ 53) < V (s * 2 ^ 52 + 2 ^ 53 + 1) := V_succ _
      rw [hVk] at h2 ⊢
      have h3 : Y * (2 * (2 ^ 53 * 2 ^ s)) < Y * (2 ^ 53 * 2 ^ s + V (s * 2 ^ 52 + 2 ^ 53 + 1)) := Nat.mul_lt_mul_of_pos_left (by omega) hY
      have h4 : Y * (2 * (2 ^ 53 * 2 ^ s)) = 2 * (Y * 2 ^ s * 2 ^ 53) := by
        rw [Nat.mul_left_comm, Nat.mul_comm (2 ^ 53) (2 ^ s), Nat.mul_assoc]
      refine ⟨by omega, by omega⟩
    · have e1 : V (s * 2 ^ 52 + k + 1) = (k + 1) * 2 ^ s := by
        rw [Nat.add_assoc]
        exact V_rung s (k + 1) (by omega) (by intro h; have := hk52 h; omega)
      have e2 : Y * (V (s * 2 ^ 52 + k) + V (s * 2 ^ 52 + k + 1)) = Y * 2 ^ s * (2 * k + 1) := by
        rw [e1, hVk, ← Nat.add_mul, show k + (k + 1) = 2 * k + 1 from by omega, Nat.mul_comm (2 * k + 1), Nat.mul_assoc]
      rw [e2]
      exact ⟨hhigh.1, fun e => by have := hhigh.2 e; omega⟩
  by_cases hi : s * 2 ^ 52 + k ≤ INF
  · rw [Nat.min_eq_left hi]
    exact ⟨hi, low, fun _ => high⟩
  · rw [Nat.min_eq_right (by omega)]
    have hI : INF % 2 = 0 := by unfold INF; omega
    refine ⟨Nat.le_refl _, fun _ => ⟨?_, fun _ => hI⟩, fun h => absurd h (by omega)⟩
    have l := (low (by omega)).1
    have m1 := V_le (r := INF - 1) (t := s * 2 ^ 52 + k - 1) (by omega)
    have m2 := V_le (r := INF) (t := s * 2 ^ 52 + k) (by omega)
    exact Nat.le_trans (Nat.mul_le_mul_left _ (by omega)) l

/-- n / d rounded to the nearest whole number, of two the even one. -/
def rne (n d : Nat) : Nat := let q := n / d; let r := n % d; if d < 2 * r ∨ (2 * r = d ∧ q % 2 = 1) then q + 1 else q

theorem rne_spec (n d : Nat) (hd : 0 < d) :
    (0 < rne n d → d * (2 * rne n d - 1) ≤ 2 * n ∧ (d * (2 * rne n d - 1) = 2 * n → rne n d % 2 = 0)) ∧
    (2 * n ≤ d * (2 * rne n d + 1) ∧ (2 * n = d * (2 * rne n d + 1) → rne n d % 2 = 0)) := by
  have hdm := Nat.div_add_mod n d
  have hr := Nat.mod_lt n hd
  unfold rne
  generalize hq : n / d = q at *
  generalize hrr : n % d = r at *
  simp only
  split
  · rename_i h
    have e1 : d * (2 * (q + 1) - 1) = 2 * (d * q) + d := by
      rw [show 2 * (q + 1) - 1 = 2 * q + 1 from by omega, Nat.mul_add, Nat.mul_left_comm, Nat.mul_one]
    have e2 : d * (2 * (q + 1) + 1) = 2 * (d * q) + 3 * d := by
      rw [show 2 * (q + 1) + 1 = 2 * q + 3 from by omega, Nat.mul_add, Nat.mul_left_comm]; omega
    rw [e1, e2]
    refine ⟨fun _ => ⟨by omega, fun e => ?_⟩, by omega, fun e => by omega⟩
    have : 2 * r = d := by omega
    omega
  · rename_i h
    have e2 : d * (2 * q + 1) = 2 * (d * q) + d := by rw [Nat.mul_add, Nat.mul_left_comm, Nat.mul_one]
    rw [e2]
    refine ⟨fun h0 => ?_, by omega, fun e => ?_⟩
    · have e1 : d * (2 * q - 1) + d = 2 * (d * q) := by
        have : d * (2 * q - 1) + d * 1 = d * (2 * q - 1 + 1) := (Nat.mul_add _ _ _).symm
        rw [Nat.mul_one] at this
        rw [this, show 2 * q - 1 + 1 = 2 * q from by omega, Nat.mul_left_comm]
      refine ⟨by omega, fun e => by omega⟩
    · have : 2 * r = d := by omega
      have h' : ¬ (q % 2 = 1) := fun h1 => h (Or.inr ⟨this, h1⟩)
      omega

theorem cut_even (neg : Bool) (n drop : Nat) : Toward.even.cut neg n drop = rne n (2 ^ drop) := by
  unfold Toward.cut rne
  by_cases h : drop ≤ n.log2 + 2
  · rw [Nat.min_eq_left h]
    simp only [Nat.shiftLeft_eq, Nat.one_mul]
    by_cases h1 : 2 ^ drop < 2 * (n % 2 ^ drop)
    · simp [h1]
    · by_cases h2 : 2 * (n % 2 ^ drop) = 2 ^ drop
      · by_cases h3 : n / 2 ^ drop % 2 = 1
        · simp [h2, h3]
        · simp [h2, h3]
      · have h2' : ¬ 2 ^ drop = 2 * (n % 2 ^ drop) := fun e => h2 e.symm
        simp [h1, h2, h2']
  · have hn : n < 2 ^ (n.log2 + 1) := Nat.lt_log2_self
    have h4 : 2 ^ (n.log2 + 1) ≤ 2 ^ drop := Nat.pow_le_pow_right (by omega) (by omega)
    have h5 : 2 ^ (n.log2 + 2) = 2 * 2 ^ (n.log2 + 1) := by rw [Nat.pow_succ]; omega
    have h6 : 2 ^ (n.log2 + 2) ≤ 2 ^ drop := Nat.pow_le_pow_right (by omega) (by omega)
    rw [Nat.min_eq_right (by omega)]
    simp only [Nat.shiftLeft_eq, Nat.one_mul]
    have a1 : n / 2 ^ (n.log2 + 2) = 0 := Nat.div_eq_of_lt (by omega)
    have a2 : n % 2 ^ (n.log2 + 2) = n := Nat.mod_eq_of_lt (by omega)
    have b1 : n / 2 ^ drop = 0 := Nat.div_eq_of_lt (by omega)
    have b2 : n % 2 ^ drop = n := Nat.mod_eq_of_lt (by omega)
    rw [a1, a2, b1, b2]
    have c1 : ¬ 2 ^ (n.log2 + 2) < 2 * n := by omega
    have c2 : ¬ 2 ^ drop < 2 * n := by omega
    simp [c1, c2]

/-- the nearest rung, computed. -/
def rd (X Y : Nat) : Nat :=
  let s := (X / Y).log2 - 52
  min (s * 2 ^ 52 + rne X (Y * 2 ^ s)) INF

theorem rne_le {n d B : Nat} (hd : 0 < d) (h : n < d * B) : rne n d ≤ B := by
  have : n / d < B := by rw [Nat.div_lt_iff_lt_mul hd, Nat.mul_comm]; exact h
  unfold rne; simp only; split <;> omega

theorem near_rne (X Y s : Nat) (hY : 0 < Y) (h52 : 0 < s → Y * 2 ^ s * 2 ^ 52 ≤ X) (h53 : X < Y * 2 ^ s * 2 ^ 53) :
    Near X Y (min (s * 2 ^ 52 + rne X (Y * 2 ^ s)) INF) := by
  have hp := Nat.two_pow_pos s
  have hYs : 0 < Y * 2 ^ s := Nat.mul_pos hY hp
  obtain ⟨a, b⟩ := rne_spec X (Y * 2 ^ s) hYs
  exact near_of_round X Y s _ hY (rne_le hYs h53) h52 h53 a b

theorem log2_facts (X Y : Nat) (hY : 0 < Y) : (0 < (X / Y).log2 - 52 → Y * 2 ^ ((X / Y).log2 - 52) * 2 ^ 52 ≤ X) ∧ X < Y * 2 ^ ((X / Y).log2 - 52) * 2 ^ 53 := by
  have hlt : X / Y < 2 ^ ((X / Y).log2 + 1) := Nat.lt_log2_self
  have hX : X < Y * 2 ^ ((X / Y).log2 + 1) := by
    have := Nat.div_lt_iff_lt_mul (k := Y) (x := X) (y := 2 ^ ((X / Y).log2 + 1)) hY
    rw [Nat.mul_comm]; exact this.1 hlt
  constructor
  · intro h
    have hne : X / Y ≠ 0 := by intro e; rw [e] at h; simp at h
    have h1 := Nat.log2_self_le hne
    rw [Nat.mul_assoc, ← Nat.pow_add, Nat.sub_add_cancel (by omega)]
    have h2 : Y * 2 ^ (X / Y).log2 ≤ Y * (X / Y) := Nat.mul_le_mul_left _ h1
    exact Nat.le_trans h2 (Nat.mul_div_le X Y)
  · have h3 : 2 ^ ((X / Y).log2 + 1) ≤ 2 ^ ((X / Y).log2 - 52) * 2 ^ 53 := by
      rw [← Nat.pow_add]; exact Nat.pow_le_pow_right (by omega) (by omega)
    rw [Nat.mul_assoc]
    exact Nat.lt_of_lt_of_le hX (Nat.mul_le_mul_left _ h3)

theorem rd_near (X Y : Nat) (hY : 0 < Y) : Near X Y (rd X Y) := by
  obtain ⟨a, b⟩ := log2_facts X Y hY
  exact near_rne X Y _ hY a b

theorem near_rd {X Y r : Nat} (hY : 0 < Y) (h : Near X Y r) : r = rd X Y := Near.unique hY h (rd_near X Y hY)

theorem rd_scale (X Y c : Nat) (hY : 0 < Y) (hc : 0 < c) : rd (X * c) (Y * c) = rd X Y := by
  refine (near_rd hY ?_)
  have h := rd_near (X * c) (Y * c) (Nat.mul_pos hY hc)
  generalize rd (X * c) (Y * c) = r at h
  refine ⟨h.top, fun h0 => ?_, fun h0 => ?_⟩
  · have := h.low h0
    rw [Nat.mul_right_comm, ← Nat.mul_assoc 2 X c] at this
    exact ⟨Nat.le_of_mul_le_mul_right this.1 hc, fun e => this.2 (by rw [e])⟩
  · have := h.high h0
    rw [Nat.mul_right_comm, ← Nat.mul_assoc 2 X c] at this
    exact ⟨Nat.le_of_mul_le_mul_right this.1 hc, fun e => this.2 (by rw [e])⟩

/-- a rung is the nearest to its own value. -/
theorem near_self {r : Nat} (h : r ≤ INF) : Near (V r) 1 r := by
  refine ⟨h, fun h0 => ?_, fun h0 => ?_⟩
  · have : V (r - 1) < V r := V_lt (by omega)
    rw [Nat.one_mul]; exact ⟨by omega, by omega⟩
  · have : V r < V (r + 1) := V_succ r
    rw [Nat.one_mul]; exact ⟨by omega, by omega⟩

theorem rd_V {r : Nat} (h : r ≤ INF) : rd (V r) 1 = r := (near_rd (by omega) (near_self h)).symm

theorem double_infRung : double.infRung = INF := by decide +kernel
theorem double_least : double.leastPlace = -1074 := by decide +kernel
theorem double_binade : double.binade = 2 ^ 52 := by decide +kernel
theorem double_signWeight : double.signWeight = 2 ^ 63 := by decide +kernel

/-- mag * 2^place in units: as a fraction. -/
def up (mag : Nat) (place : Int) : Nat := mag * 2 ^ (place + 1074).toNat
def dn (place : Int) : Nat := 2 ^ (-1074 - place).toNat

theorem dn_pos (p : Int) : 0 < dn p := Nat.two_pow_pos _

theorem nearest_eq (neg : Bool) (mag : Nat) (place : Int) : double.nearest neg mag place = double.word neg (rd (up mag place) (dn place)) := by
  unfold Format.nearest
  by_cases h0 : mag = 0
  · subst h0
    rw [if_pos rfl]
    refine congrArg (double.word neg) ?_
    refine near_rd (dn_pos _) ?_
    have hv : V (0 + 1) = 1 := V_small (by omega)
    have hv0 : V 0 = 0 := V_small (by omega)
    refine ⟨by omega, fun h => absurd h (by omega), fun _ => ?_⟩
    simp [up, hv, hv0]
  · rw [if_neg h0]
    simp only [double_infRung, double_least, double_binade, cut_even]
    refine congrArg (double.word neg) ?_
    have hf : (double.fractionBits : Int) = 52 := rfl
    rw [hf]
    generalize hlast : max (place + mag.log2 - 52) (-1074) = last
    have hl1 : place + mag.log2 - 52 ≤ last := by omega
    have hl2 : -1074 ≤ last := by omega
    refine near_rd (dn_pos _) ?_
    have hm1 := Nat.log2_self_le h0
    have hm2 : mag < 2 ^ (mag.log2 + 1) := Nat.lt_log2_self
    have hs : (last - -1074).toNat = (last + 1074).toNat := by omega
    rw [hs]
    have key : rne (mag <<< (place - last).toNat) (2 ^ (last - place).toNat) = rne (up mag place) (dn place * 2 ^ (last + 1074).toNat) := by
      unfold up dn
      rw [Nat.shiftLeft_eq, ← Nat.pow_add]
      -- both are one fraction, up to a power of two
      have sc : ∀ n d c, 0 < d → 0 < c → rne (n * c) (d * c) = rne n d := by
        intro n d c hd hc
        unfold rne
        simp only [Nat.mul_div_mul_right _ _ hc, Nat.mul_mod_mul_right]
        have e1 : (d * c < 2 * (n % d * c)) = (d < 2 * (n % d)) := by
          rw [← Nat.mul_assoc]; exact propext ⟨fun h => Nat.lt_of_mul_lt_mul_right h, fun h => Nat.mul_lt_mul_of_pos_right h hc⟩
        have e2 : (2 * (n % d * c) = d * c) = (2 * (n % d) = d) := by
          rw [← Nat.mul_assoc]; exact propext ⟨fun h => Nat.eq_of_mul_eq_mul_right hc h, fun h => by rw [h]⟩
        simp only [e1, e2]
      by_cases hp : -1074 ≤ place
      · -- up: place + 1074; dn = 1
        have e : (-1074 - place).toNat = 0 := by omega
        rw [e, Nat.zero_add]
        by_cases hpl : place ≤ last
        · have e1 : (place - last).toNat = 0 := by omega
          have e2 : (last + 1074).toNat = (last - place).toNat + (place + 1074).toNat := by omega
          rw [e1, e2, Nat.pow_add, sc _ _ _ (Nat.two_pow_pos _) (Nat.two_pow_pos _), Nat.pow_zero, Nat.mul_one]
        · have e1 : (last - place).toNat = 0 := by omega
          have e2 : (place + 1074).toNat = (place - last).toNat + (last + 1074).toNat := by omega
          rw [e1, e2, Nat.pow_add, ← Nat.mul_assoc]
          have := sc (mag * 2 ^ (place - last).toNat) 1 (2 ^ (last + 1074).toNat) (by omega) (Nat.two_pow_pos _)
          rw [Nat.one_mul] at this
          rw [this]
      · have e : (place + 1074).toNat = 0 := by omega
        have e1 : (place - last).toNat = 0 := by omega
        have e2 : (-1074 - place).toNat + (last + 1074).toNat = (last - place).toNat := by omega
        rw [e, e1, e2]
    rw [key]
    refine near_rne _ _ _ (dn_pos _) ?_ ?_
    · intro h
      have hlast2 : place + mag.log2 - 52 = last := by omega
      unfold up dn
      rw [← Nat.pow_add, ← Nat.pow_add]
      have e3 : (-1074 - place).toNat + (last + 1074).toNat + 52 = mag.log2 + (place + 1074).toNat := by omega
      rw [e3, Nat.pow_add]
      exact Nat.mul_le_mul_right _ hm1
    · unfold up dn
      rw [← Nat.pow_add, ← Nat.pow_add]
      refine Nat.lt_of_lt_of_le (Nat.mul_lt_mul_of_pos_right hm2 (Nat.two_pow_pos _)) ?_
      rw [← Nat.pow_add]
      exact Nat.pow_le_pow_right (by omega) (by omega)

end Go.Proofs.YteophaobcebppaaGreatDoor.dg
