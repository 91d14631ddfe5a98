/- Plain: binary64's sums, products and quotients lie within the bounds of what they round. Conditions: none beyond what each says. -/
import Derived.Test.YteophaobcebppaaGreatDoorFlo2
namespace Go.Proofs.YteophaobcebppaaGreatDoor.dg
open Ieee

/-- a greater fraction has no lower nearest rung. -/
theorem rd_mono {X Y X' Y' : Nat} (hY : 0 < Y) (hY' : 0 < Y') (h : X * Y' ≤ X' * Y) : rd X Y ≤ rd X' Y' := by
  rcases Nat.lt_or_ge (rd X' Y') (rd X Y) with hlt | hge
  · exfalso
    have a := rd_near X Y hY
    have b := rd_near X' Y' hY'
    revert a b hlt
    generalize rd X Y = r
    generalize rd X' Y' = t
    intro hlt a b
    have ha := a.low (by omega)
    have hb := b.high (by have := a.top; omega)
    have h1 : V t + V (t + 1) ≤ V (r - 1) + V r := by
      have := V_le (r := t) (t := r - 1) (by omega)
      have := V_le (r := t + 1) (t := r) (by omega)
      omega
    have e1 : Y * (V (r - 1) + V r) * Y' ≤ 2 * X * Y' := Nat.mul_le_mul_right _ ha.1
    have e2 : 2 * X' * Y ≤ Y' * (V t + V (t + 1)) * Y := Nat.mul_le_mul_right _ hb.1
    have e3 : Y * Y' * (V t + V (t + 1)) ≤ Y * Y' * (V (r - 1) + V r) := Nat.mul_le_mul_left _ h1
    have e4 : Y * (V (r - 1) + V r) * Y' = Y * Y' * (V (r - 1) + V r) := by rw [Nat.mul_right_comm]
    have e5 : Y' * (V t + V (t + 1)) * Y = Y * Y' * (V t + V (t + 1)) := by rw [Nat.mul_right_comm, Nat.mul_comm Y' Y]
    have e6 : 2 * X * Y' ≤ 2 * X' * Y := by rw [Nat.mul_assoc, Nat.mul_assoc]; omega
    have hYY : 0 < Y * Y' := Nat.mul_pos hY hY'
    have e7 : Y * Y' * (V t + V (t + 1)) = Y * Y' * (V (r - 1) + V r) := by omega
    have e8 := Nat.eq_of_mul_eq_mul_left hYY e7
    have e9 : 2 * X = Y * (V (r - 1) + V r) := by
      have : 2 * X * Y' = Y * (V (r - 1) + V r) * Y' := by omega
      exact Nat.eq_of_mul_eq_mul_right hY' this
    have e10 : 2 * X' = Y' * (V t + V (t + 1)) := by
      have : 2 * X' * Y = Y' * (V t + V (t + 1)) * Y := by omega
      exact Nat.eq_of_mul_eq_mul_right hY this
    have p1 := ha.2 e9.symm
    have p2 := hb.2 e10
    have hrt : r = t + 1 := by
      have a1 := V_le (r := t) (t := r - 1) (by omega)
      have a2 := V_le (r := t + 1) (t := r) (by omega)
      have : V t = V (r - 1) := by omega
      have := V_inj this
      omega
    omega
  · exact hge

theorem rd_upper {X Y r0 : Nat} (hY : 0 < Y) (h0 : r0 ≤ INF) (h : X ≤ Y * V r0) : rd X Y ≤ r0 := by
  have := rd_mono hY (by omega : 0 < 1) (X' := V r0) (by rw [Nat.mul_one, Nat.mul_comm]; exact h)
  rwa [rd_V h0] at this
theorem rd_lower {X Y r0 : Nat} (hY : 0 < Y) (h0 : r0 ≤ INF) (h : Y * V r0 ≤ X) : r0 ≤ rd X Y := by
  have := rd_mono (by omega : 0 < 1) hY (X := V r0) (X' := X) (by rw [Nat.mul_one, Nat.mul_comm]; exact h)
  rwa [rd_V h0] at this

/-- the value of a word, in units of the least subnormal. -/
def sv (x : Nat) : Int := if x < 2 ^ 63 then (V x : Int) else -(V (x % 2 ^ 63) : Int)
structure Num (x : Nat) : Prop where
  word : x < B64
  fin : x % 2 ^ 63 < INF

theorem Num.small {x : Nat} (h : x < INF) : Num x := ⟨by have := INF_lt; rw [B64_pow]; omega, by rw [Nat.mod_eq_of_lt (by have := INF_lt; omega)]; exact h⟩
theorem sv_small {x : Nat} (h : x < INF) : sv x = (V x : Int) := by unfold sv; rw [if_pos (by have := INF_lt; omega)]
theorem sv_abs (x : Nat) : (sv x).natAbs = V (x % 2 ^ 63) := by
  unfold sv
  split
  · rename_i h1; rw [Nat.mod_eq_of_lt h1, Int.natAbs_natCast]
  · rw [Int.natAbs_neg, Int.natAbs_natCast]
theorem sv_parts (x : Nat) : sv x = signed (decide (2 ^ 63 ≤ x)) (mg (x % 2 ^ 63)) (pl (x % 2 ^ 63)) := by
  rw [signed_eq, ← V_mg]
  unfold sv
  by_cases h1 : x < 2 ^ 63
  · rw [if_pos h1, if_neg (by simp; omega), Nat.mod_eq_of_lt h1]
  · rw [if_neg h1, if_pos (by simp; omega)]

/-- r is the word nearest to T / D units. -/
def Rd (T : Int) (D r : Nat) : Prop := ∃ neg : Bool, r = double.word neg (rd T.natAbs D) ∧ (T ≠ 0 → neg = decide (T < 0))

theorem word_val (neg : Bool) {k : Nat} (h : k < INF) : Num (double.word neg k) ∧ sv (double.word neg k) = if neg = true then -(V k : Int) else (V k : Int) := by
  have hI := INF_lt
  cases neg
  · have e : double.word false k = k := rfl
    rw [e]
    exact ⟨Num.small h, sv_small h⟩
  · have e : double.word true k = 2 ^ 63 + k := rfl
    rw [e]
    have e2 : (2 ^ 63 + k) % 2 ^ 63 = k := by omega
    refine ⟨⟨by rw [B64_pow]; omega, by rw [e2]; exact h⟩, ?_⟩
    unfold sv
    rw [if_neg (by omega), e2]; rfl

theorem Rd.abs {T : Int} {D r r0 : Nat} (h : Rd T D r) (hD : 0 < D) (h0 : r0 < INF) (hT : T.natAbs ≤ D * V r0) : Num r ∧ (sv r).natAbs ≤ V r0 := by
  obtain ⟨neg, rfl, hn⟩ := h
  have h1 := rd_upper hD (by omega) hT
  clear hT hn
  generalize rd T.natAbs D = k at h1 ⊢
  obtain ⟨a, b⟩ := word_val neg (k := k) (by omega)
  refine ⟨a, ?_⟩
  rw [b]
  have := V_le h1
  generalize V k = vk at *
  generalize V r0 = v0 at *
  split <;> omega

theorem low_core {v D X : Nat} {T : Int} (hT : ((D * v : Nat) : Int) ≤ T) (hX : X = T.natAbs) : D * v ≤ X := by
  generalize D * v = z at *; omega
theorem low_zero {v D : Nat} (hD : 0 < D) (hT : ((D * v : Nat) : Int) ≤ 0) : v = 0 := by
  have h : D * v = 0 := by generalize D * v = z at *; omega
  rcases Nat.mul_eq_zero.1 h with h | h
  · exact absurd h (by omega)
  · exact h
theorem low_neg {v D : Nat} {T : Int} (hT : ((D * v : Nat) : Int) ≤ T) : ¬ T < 0 := by
  generalize D * v = z at *; omega
theorem word_fin (neg : Bool) {k : Nat} (hk : k ≤ INF) (h : double.word neg k % 2 ^ 63 < INF) : k < INF := by
  have hI := INF_lt
  cases neg
  · have e : double.word false k = k := rfl
    rw [e, Nat.mod_eq_of_lt (by omega)] at h; exact h
  · have e : double.word true k = 2 ^ 63 + k := rfl
    rw [e] at h
    have e2 : (2 ^ 63 + k) % 2 ^ 63 = k := by omega
    rw [e2] at h; exact h

theorem Rd.low {T : Int} {D r r0 : Nat} (h : Rd T D r) (hD : 0 < D) (hr : Num r) (h0 : r0 < INF) (hT : ((D * V r0 : Nat) : Int) ≤ T) : (V r0 : Int) ≤ sv r := by
  obtain ⟨neg, rfl, hn⟩ := h
  have h1 : r0 ≤ rd T.natAbs D := rd_lower hD (Nat.le_of_lt h0) (low_core hT rfl)
  have h2 : rd T.natAbs D < INF := word_fin neg (rd_le T.natAbs D hD) hr.fin
  rw [(word_val neg h2).2]
  have h5 := V_le h1
  have h6 := low_neg hT
  by_cases hz : T = 0
  · subst hz
    have h7 := low_zero hD hT
    rw [h7]
    split
    · have h8 : rd (Int.natAbs 0) D ≤ 0 := rd_upper (X := Int.natAbs 0) hD (Nat.zero_le INF) (Nat.zero_le _)
      rw [Nat.le_zero.1 h8, V_zero]; exact Int.le_refl _
    · exact Int.natCast_nonneg _
  · have h8 := hn hz
    have hf : neg = false := by rw [h8]; exact decide_eq_false h6
    rw [if_neg (by rw [hf]; exact Bool.false_ne_true)]; exact Int.ofNat_le.2 h5

theorem signed_scale (s : Bool) (m u c : Nat) (h : c ≤ u) : signed s m (u - c) * ((2 ^ c : Nat) : Int) = signed s m u := by
  rw [signed_eq, signed_eq]
  have e : m * 2 ^ (u - c) * 2 ^ c = m * 2 ^ u := by rw [Nat.mul_assoc, ← Nat.pow_add, Nat.sub_add_cancel h]
  split
  · rw [Int.neg_mul, ← Int.natCast_mul, e]
  · rw [← Int.natCast_mul, e]

theorem natAbs_mul_pow (t : Int) (c : Nat) : (t * ((2 ^ c : Nat) : Int)).natAbs = t.natAbs * 2 ^ c := by
  rw [Int.natAbs_mul, Int.natAbs_natCast]

theorem sum_core (s t : Bool) (m n p q : Nat) : ∃ r, ((Datum.number s m ((p : Nat) - 1074 : Int)).sum (Datum.number t n ((q : Nat) - 1074 : Int))).map double.write = some r ∧ Rd (signed s m p + signed t n q) 1 r := by
  simp only [Datum.sum, Option.map_some, Format.write, nearest_rz]
  refine ⟨_, rfl, ?_⟩
  have hb : min ((p : Nat) - 1074 : Int) ((q : Nat) - 1074 : Int) = ((min p q : Nat) : Int) - 1074 := by omega
  rw [hb]
  have e1 : (((p : Nat) - 1074 : Int) - (((min p q : Nat) : Int) - 1074)).toNat = p - min p q := by omega
  have e2 : (((q : Nat) - 1074 : Int) - (((min p q : Nat) : Int) - 1074)).toNat = q - min p q := by omega
  have e3 : ((min p q : Nat) : Int) - 1074 + 1074 = ((min p q : Nat) : Int) := by omega
  rw [e1, e2, e3, rz_nat]
  have h1 := signed_scale s m p (min p q) (by omega)
  have h2 := signed_scale t n q (min p q) (by omega)
  generalize signed s m (p - min p q) = a at *
  generalize signed t n (q - min p q) = b at *
  rw [← h1, ← h2, ← Int.add_mul]
  refine ⟨_, by rw [natAbs_mul_pow], fun hne => ?_⟩
  have hp : (0 : Int) < ((2 ^ min p q : Nat) : Int) := by have := Nat.two_pow_pos (min p q); omega
  have hne2 : a + b ≠ 0 := by intro e; rw [e] at hne; simp at hne
  rw [if_neg hne2]
  by_cases hlt : a + b < 0
  · have := Int.mul_neg_of_neg_of_pos hlt hp
    rw [decide_eq_true hlt, decide_eq_true this]
  · have := Int.mul_nonneg (a := a + b) (by omega) (Int.le_of_lt hp)
    rw [decide_eq_false hlt, decide_eq_false (by omega)]

theorem add_sv {x y : Nat} (hx : Num x) (hy : Num y) : ∃ r, double.add x y = some r ∧ Rd (sv x + sv y) 1 r := by
  unfold Format.add
  rw [read_fin hx.word hx.fin, read_fin hy.word hy.fin, sv_parts x, sv_parts y]
  exact sum_core _ _ _ _ _ _

theorem signed_not (s : Bool) (m u : Nat) : signed (!s) m u = -signed s m u := by
  rw [signed_eq, signed_eq]; cases s <;> simp

theorem sub_sv {x y : Nat} (hx : Num x) (hy : Num y) : ∃ r, double.sub x y = some r ∧ Rd (sv x - sv y) 1 r := by
  unfold Format.sub
  rw [read_fin hx.word hx.fin, read_fin hy.word hy.fin, sv_parts x, sv_parts y]
  have h := sum_core (decide (2 ^ 63 ≤ x)) (!decide (2 ^ 63 ≤ y)) (mg (x % 2 ^ 63)) (mg (y % 2 ^ 63)) (pl (x % 2 ^ 63)) (pl (y % 2 ^ 63))
  rw [signed_not, ← Int.sub_eq_add_neg] at h
  exact h

/-- one, in units of the least subnormal. -/
def ONE (k : Nat) : Nat := 2 ^ k
attribute [irreducible] ONE
theorem ONE_pos (k : Nat) : 0 < ONE k := by unfold ONE; exact Nat.two_pow_pos _

theorem mul_sv {x y : Nat} (hx : Num x) (hy : Num y) : ∃ r, double.mul x y = some r ∧ Rd (sv x * sv y) (ONE 1074) r := by
  obtain ⟨K, hK⟩ : ∃ K : Nat, K = 1074 := ⟨_, rfl⟩
  rw [← hK]
  unfold Format.mul
  rw [read_fin hx.word hx.fin, read_fin hy.word hy.fin]
  simp only [Datum.product, Option.map_some, Format.write, nearest_rz]
  refine ⟨_, rfl, ?_⟩
  have ex := sv_abs x
  have ey := sv_abs y
  have sx := sv_parts x
  have sy := sv_parts y
  rw [V_mg] at ex ey
  generalize mg (x % 2 ^ 63) = m at *
  generalize mg (y % 2 ^ 63) = n at *
  generalize pl (x % 2 ^ 63) = p at *
  generalize pl (y % 2 ^ 63) = q at *
  have e1 : ((p : Nat) - 1074 : Int) + ((q : Nat) - 1074 : Int) + 1074 = -(K : Int) + ((p + q : Nat) : Int) := by omega
  rw [e1, ← rz_shift]
  generalize decide (2 ^ 63 ≤ x) = bx at *
  generalize decide (2 ^ 63 ≤ y) = bz at *
  refine ⟨bx ^^ bz, ?_, fun hne => ?_⟩
  · refine congrArg (double.word _) ?_
    unfold rz
    rw [Int.natAbs_mul, ex, ey]
    have e2 : m * n * 2 ^ (p + q) = m * 2 ^ p * (n * 2 ^ q) := by
      rw [Nat.pow_add]; simp only [Nat.mul_assoc, Nat.mul_left_comm, Nat.mul_comm]
    rw [e2]
    have e3 : (-(K : Int)).toNat = 0 := by omega
    have e4 : (-(-(K : Int))).toNat = K := by omega
    unfold ONE
    rw [e3, e4, Nat.pow_zero, Nat.mul_one]
  · rw [sx, sy, signed_eq, signed_eq] at hne ⊢
    clear ex ey sx sy
    generalize m * 2 ^ p = A at *
    generalize n * 2 ^ q = B at *
    have hAB : (0 : Int) ≤ (A : Int) * (B : Int) := Int.mul_nonneg (by omega) (by omega)
    cases bx <;> cases bz <;> simp [Int.neg_mul, Int.mul_neg] at hne ⊢
    · exact hAB
    · have : (A : Int) * (B : Int) ≠ 0 := Int.mul_ne_zero (by omega) (by omega)
      omega
    · have : (A : Int) * (B : Int) ≠ 0 := Int.mul_ne_zero (by omega) (by omega)
      omega
    · exact hAB

end Go.Proofs.YteophaobcebppaaGreatDoor.dg
