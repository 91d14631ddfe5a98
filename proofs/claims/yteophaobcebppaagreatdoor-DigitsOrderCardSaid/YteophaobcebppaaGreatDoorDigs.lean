/- Plain: binary64's sums, products and quotients lie within the bounds of what they round. Conditions: none beyond what each says.
Plain: the logarithm, as the machine reckons it, of a number above 0 lies between -900 and 900. Conditions: none beyond what each says.
Plain and walks: math.Floor, Log, Log10: of a number above 0 they lie between bounds. Conditions: none beyond what each says.
The walks of digits.parts and digits.below. Conditions: what each says.
The walk of digits.below: is a quotient below a power of ten? Conditions: what it says.
Plain: the shortest digits of a number: what they are, that there is just one row of them, that seventeen are enough. Conditions: none beyond what each says.
Plain: numerals and their readings; a number's place; the parts of a number tell its shortest digits. Conditions: none beyond what each says. -/
import Derived.Test.YteophaobcebppaaGreatDoorFlo2
import Derived.Laws.Externs
import Derived.Test.YteophaobcebppaaGreatDoorMathC
import Derived.Test.YteophaobcebppaaGreatDoorRead
import Derived.Lib.ItoaNum
set_option linter.unusedSimpArgs false
namespace Go.Proofs.YteophaobcebppaaGreatDoor.dg
open Ieee

/-- a greater fraction has no lower nearest rung. -/
theorem rd_mono {X Y X' Y' : Nat} (hY : 0 < Y) (hY' : 0 < Y') (h : X * Y' ≤ X' * Y) : rd X Y ≤ rd X' Y' := by
  rcases Nat.lt_or_ge (rd X' Y') (rd X Y) with hlt | hge
  · exfalso
    have a := rd_near X Y hY
    have b := rd_near X' Y' hY'
    revert a b hlt
    generalize rd X Y = r
    generalize rd X' Y' = t
    intro hlt a b
    have ha := a.low (by omega)
    have hb := b.high (by have := a.top; omega)
    have h1 : V t + V (t + 1) ≤ V (r - 1) + V r := by
      have := V_le (r := t) (t := r - 1) (by omega)
      have := V_le (r := t + 1) (t := r) (by omega)
      omega
    have e1 : Y * (V (r - 1) + V r) * Y' ≤ 2 * X * Y' := Nat.mul_le_mul_right _ ha.1
    have e2 : 2 * X' * Y ≤ Y' * (V t + V (t + 1)) * Y := Nat.mul_le_mul_right _ hb.1
    have e3 : Y * Y' * (V t + V (t + 1)) ≤ Y * Y' * (V (r - 1) + V r) := Nat.mul_le_mul_left _ h1
    have e4 : Y * (V (r - 1) + V r) * Y' = Y * Y' * (V (r - 1) + V r) := by rw [Nat.mul_right_comm]
    have e5 : Y' * (V t + V (t + 1)) * Y = Y * Y' * (V t + V (t + 1)) := by rw [Nat.mul_right_comm, Nat.mul_comm Y' Y]
    have e6 : 2 * X * Y' ≤ 2 * X' * Y := by rw [Nat.mul_assoc, Nat.mul_assoc]; omega
    have hYY : 0 < Y * Y' := Nat.mul_pos hY hY'
    have e7 : Y * Y' * (V t + V (t + 1)) = Y * Y' * (V (r - 1) + V r) := by omega
    have e8 := Nat.eq_of_mul_eq_mul_left hYY e7
    have e9 : 2 * X = Y * (V (r - 1) + V r) := by
      have : 2 * X * Y' = Y * (V (r - 1) + V r) * Y' := by omega
      exact Nat.eq_of_mul_eq_mul_right hY' this
    have e10 : 2 * X' = Y' * (V t + V (t + 1)) := by
      have : 2 * X' * Y = Y' * (V t + V (t + 1)) * Y := by omega
      exact Nat.eq_of_mul_eq_mul_right hY this
    have p1 := ha.2 e9.symm
    have p2 := hb.2 e10
    have hrt : r = t + 1 := by
      have a1 := V_le (r := t) (t := r - 1) (by omega)
      have a2 := V_le (r := t + 1) (t := r) (by omega)
      have : V t = V (r - 1) := by omega
      have := V_inj this
      omega
    omega
  · exact hge

theorem rd_upper {X Y r0 : Nat} (hY : 0 < Y) (h0 : r0 ≤ INF) (h : X ≤ Y * V r0) : rd X Y ≤ r0 := by
  have := rd_mono hY (by omega : 0 < 1) (X' := V r0) (by rw [Nat.mul_one, Nat.mul_comm]; exact h)
  rwa [rd_V h0] at this
theorem rd_lower {X Y r0 : Nat} (hY : 0 < Y) (h0 : r0 ≤ INF) (h : Y * V r0 ≤ X) : r0 ≤ rd X Y := by
  have := rd_mono (by omega : 0 < 1) hY (X := V r0) (X' := X) (by rw [Nat.mul_one, Nat.mul_comm]; exact h)
  rwa [rd_V h0] at this

/-- the value of a word, in units of the least subnormal. -/
def sv (x : Nat) : Int := if x < 2 ^ 63 then (V x : Int) else -(V (x % 2 ^ 63) : Int)
structure Num (x : Nat) : Prop where
  word : x < B64
  fin : x % 2 ^ 63 < INF

theorem Num.small {x : Nat} (h : x < INF) : Num x := ⟨by have := INF_lt; rw [B64_pow]; omega, by rw [Nat.mod_eq_of_lt (by have := INF_lt; omega)]; exact h⟩
theorem sv_small {x : Nat} (h : x < INF) : sv x = (V x : Int) := by unfold sv; rw [if_pos (by have := INF_lt; omega)]
theorem sv_abs (x : Nat) : (sv x).natAbs = V (x % 2 ^ 63) := by
  unfold sv
  split
  · rename_i h1; rw [Nat.mod_eq_of_lt h1, Int.natAbs_natCast]
  · rw [Int.natAbs_neg, Int.natAbs_natCast]
theorem sv_parts (x : Nat) : sv x = signed (decide (2 ^ 63 ≤ x)) (mg (x % 2 ^ 63)) (pl (x % 2 ^ 63)) := by
  rw [signed_eq, ← V_mg]
  unfold sv
  by_cases h1 : x < 2 ^ 63
  · rw [if_pos h1, if_neg (by simp; omega), Nat.mod_eq_of_lt h1]
  · rw [if_neg h1, if_pos (by simp; omega)]

/-- r is the word nearest to T / D units. -/
def Rd (T : Int) (D r : Nat) : Prop := ∃ neg : Bool, r = double.word neg (rd T.natAbs D) ∧ (T ≠ 0 → neg = decide (T < 0))

theorem word_val (neg : Bool) {k : Nat} (h : k < INF) : Num (double.word neg k) ∧ sv (double.word neg k) = if neg = true then -(V k : Int) else (V k : Int) := by
  have hI := INF_lt
  cases neg
  · have e : double.word false k = k := rfl
    rw [e]
    exact ⟨Num.small h, sv_small h⟩
  · have e : double.word true k = 2 ^ 63 + k := rfl
    rw [e]
    have e2 : (2 ^ 63 + k) % 2 ^ 63 = k := by omega
    refine ⟨⟨by rw [B64_pow]; omega, by rw [e2]; exact h⟩, ?_⟩
    unfold sv
    rw [if_neg (by omega), e2]; rfl

theorem Rd.abs {T : Int} {D r r0 : Nat} (h : Rd T D r) (hD : 0 < D) (h0 : r0 < INF) (hT : T.natAbs ≤ D * V r0) : Num r ∧ (sv r).natAbs ≤ V r0 := by
  obtain ⟨neg, rfl, hn⟩ := h
  have h1 := rd_upper hD (by omega) hT
  clear hT hn
  generalize rd T.natAbs D = k at h1 ⊢
  obtain ⟨a, b⟩ := word_val neg (k := k) (by omega)
  refine ⟨a, ?_⟩
  rw [b]
  have := V_le h1
  generalize V k = vk at *
  generalize V r0 = v0 at *
  split <;> omega

theorem low_core {v D X : Nat} {T : Int} (hT : ((D * v : Nat) : Int) ≤ T) (hX : X = T.natAbs) : D * v ≤ X := by
  generalize D * v = z at *; omega
theorem low_zero {v D : Nat} (hD : 0 < D) (hT : ((D * v : Nat) : Int) ≤ 0) : v = 0 := by
  have h : D * v = 0 := by generalize D * v = z at *; omega
  rcases Nat.mul_eq_zero.1 h with h | h
  · exact absurd h (by omega)
  · exact h
theorem low_neg {v D : Nat} {T : Int} (hT : ((D * v : Nat) : Int) ≤ T) : ¬ T < 0 := by
  generalize D * v = z at *; omega
theorem word_fin (neg : Bool) {k : Nat} (hk : k ≤ INF) (h : double.word neg k % 2 ^ 63 < INF) : k < INF := by
  have hI := INF_lt
  cases neg
  · have e : double.word false k = k := rfl
    rw [e, Nat.mod_eq_of_lt (by omega)] at h; exact h
  · have e : double.word true k = 2 ^ 63 + k := rfl
    rw [e] at h
    have e2 : (2 ^ 63 + k) % 2 ^ 63 = k := by omega
    rw [e2] at h; exact h

theorem Rd.low {T : Int} {D r r0 : Nat} (h : Rd T D r) (hD : 0 < D) (hr : Num r) (h0 : r0 < INF) (hT : ((D * V r0 : Nat) : Int) ≤ T) : (V r0 : Int) ≤ sv r := by
  obtain ⟨neg, rfl, hn⟩ := h
  have h1 : r0 ≤ rd T.natAbs D := rd_lower hD (Nat.le_of_lt h0) (low_core hT rfl)
  have h2 : rd T.natAbs D < INF := word_fin neg (rd_le T.natAbs D hD) hr.fin
  rw [(word_val neg h2).2]
  have h5 := V_le h1
  have h6 := low_neg hT
  by_cases hz : T = 0
  · subst hz
    have h7 := low_zero hD hT
    rw [h7]
    split
    · have h8 : rd (Int.natAbs 0) D ≤ 0 := rd_upper (X := Int.natAbs 0) hD (Nat.zero_le INF) (Nat.zero_le _)
      rw [Nat.le_zero.1 h8, V_zero]; exact Int.le_refl _
    · exact Int.natCast_nonneg _
  · have h8 := hn hz
    have hf : neg = false := by rw [h8]; exact decide_eq_false h6
    rw [if_neg (by rw [hf]; exact Bool.false_ne_true)]; exact Int.ofNat_le.2 h5

theorem signed_scale (s : Bool) (m u c : Nat) (h : c ≤ u) : signed s m (u - c) * ((2 ^ c : Nat) : Int) = signed s m u := by
  rw [signed_eq, signed_eq]
  have e : m * 2 ^ (u - c) * 2 ^ c = m * 2 ^ u := by rw [Nat.mul_assoc, ← Nat.pow_add, Nat.sub_add_cancel h]
  split
  · rw [Int.neg_mul, ← Int.natCast_mul, e]
  · rw [← Int.natCast_mul, e]

theorem natAbs_mul_pow (t : Int) (c : Nat) : (t * ((2 ^ c : Nat) : Int)).natAbs = t.natAbs * 2 ^ c := by
  rw [Int.natAbs_mul, Int.natAbs_natCast]

theorem sum_core (s t : Bool) (m n p q : Nat) : ∃ r, ((Datum.number s m ((p : Nat) - 1074 : Int)).sum (Datum.number t n ((q : Nat) - 1074 : Int))).map double.write = some r ∧ Rd (signed s m p + signed t n q) 1 r := by
  simp only [Datum.sum, Option.map_some, Format.write, nearest_rz]
  refine ⟨_, rfl, ?_⟩
  have hb : min ((p : Nat) - 1074 : Int) ((q : Nat) - 1074 : Int) = ((min p q : Nat) : Int) - 1074 := by omega
  rw [hb]
  have e1 : (((p : Nat) - 1074 : Int) - (((min p q : Nat) : Int) - 1074)).toNat = p - min p q := by omega
  have e2 : (((q : Nat) - 1074 : Int) - (((min p q : Nat) : Int) - 1074)).toNat = q - min p q := by omega
  have e3 : ((min p q : Nat) : Int) - 1074 + 1074 = ((min p q : Nat) : Int) := by omega
  rw [e1, e2, e3, rz_nat]
  have h1 := signed_scale s m p (min p q) (by omega)
  have h2 := signed_scale t n q (min p q) (by omega)
  generalize signed s m (p - min p q) = a at *
  generalize signed t n (q - min p q) = b at *
  rw [← h1, ← h2, ← Int.add_mul]
  refine ⟨_, by rw [natAbs_mul_pow], fun hne => ?_⟩
  have hp : (0 : Int) < ((2 ^ min p q : Nat) : Int) := by have := Nat.two_pow_pos (min p q); omega
  have hne2 : a + b ≠ 0 := by intro e; rw [e] at hne; simp at hne
  rw [if_neg hne2]
  by_cases hlt : a + b < 0
  · have := Int.mul_neg_of_neg_of_pos hlt hp
    rw [decide_eq_true hlt, decide_eq_true this]
  · have := Int.mul_nonneg (a := a + b) (by omega) (Int.le_of_lt hp)
    rw [decide_eq_false hlt, decide_eq_false (by omega)]

theorem add_sv {x y : Nat} (hx : Num x) (hy : Num y) : ∃ r, double.add x y = some r ∧ Rd (sv x + sv y) 1 r := by
  unfold Format.add
  rw [read_fin hx.word hx.fin, read_fin hy.word hy.fin, sv_parts x, sv_parts y]
  exact sum_core _ _ _ _ _ _

theorem signed_not (s : Bool) (m u : Nat) : signed (!s) m u = -signed s m u := by
  rw [signed_eq, signed_eq]; cases s <;> simp

theorem sub_sv {x y : Nat} (hx : Num x) (hy : Num y) : ∃ r, double.sub x y = some r ∧ Rd (sv x - sv y) 1 r := by
  unfold Format.sub
  rw [read_fin hx.word hx.fin, read_fin hy.word hy.fin, sv_parts x, sv_parts y]
  have h := sum_core (decide (2 ^ 63 ≤ x)) (!decide (2 ^ 63 ≤ y)) (mg (x % 2 ^ 63)) (mg (y % 2 ^ 63)) (pl (x % 2 ^ 63)) (pl (y % 2 ^ 63))
  rw [signed_not, ← Int.sub_eq_add_neg] at h
  exact h

/-- one, in units of the least subnormal. -/
def ONE (k : Nat) : Nat := 2 ^ k
attribute [irreducible] ONE
theorem ONE_pos (k : Nat) : 0 < ONE k := by unfold ONE; exact Nat.two_pow_pos _

theorem mul_sv {x y : Nat} (hx : Num x) (hy : Num y) : ∃ r, double.mul x y = some r ∧ Rd (sv x * sv y) (ONE 1074) r := by
  obtain ⟨K, hK⟩ : ∃ K : Nat, K = 1074 := ⟨_, rfl⟩
  rw [← hK]
  unfold Format.mul
  rw [read_fin hx.word hx.fin, read_fin hy.word hy.fin]
  simp only [Datum.product, Option.map_some, Format.write, nearest_rz]
  refine ⟨_, rfl, ?_⟩
  have ex := sv_abs x
  have ey := sv_abs y
  have sx := sv_parts x
  have sy := sv_parts y
  rw [V_mg] at ex ey
  generalize mg (x % 2 ^ 63) = m at *
  generalize mg (y % 2 ^ 63) = n at *
  generalize pl (x % 2 ^ 63) = p at *
  generalize pl (y % 2 ^ 63) = q at *
  have e1 : ((p : Nat) - 1074 : Int) + ((q : Nat) - 1074 : Int) + 1074 = -(K : Int) + ((p + q : Nat) : Int) := by omega
  rw [e1, ← rz_shift]
  generalize decide (2 ^ 63 ≤ x) = bx at *
  generalize decide (2 ^ 63 ≤ y) = bz at *
  refine ⟨bx ^^ bz, ?_, fun hne => ?_⟩
  · refine congrArg (double.word _) ?_
    unfold rz
    rw [Int.natAbs_mul, ex, ey]
    have e2 : m * n * 2 ^ (p + q) = m * 2 ^ p * (n * 2 ^ q) := by
      rw [Nat.pow_add]; simp only [Nat.mul_assoc, Nat.mul_left_comm, Nat.mul_comm]
    rw [e2]
    have e3 : (-(K : Int)).toNat = 0 := by omega
    have e4 : (-(-(K : Int))).toNat = K := by omega
    unfold ONE
    rw [e3, e4, Nat.pow_zero, Nat.mul_one]
  · rw [sx, sy, signed_eq, signed_eq] at hne ⊢
    clear ex ey sx sy
    generalize m * 2 ^ p = A at *
    generalize n * 2 ^ q = B at *
    have hAB : (0 : Int) ≤ (A : Int) * (B : Int) := Int.mul_nonneg (by omega) (by omega)
    cases bx <;> cases bz <;> simp [Int.neg_mul, Int.mul_neg] at hne ⊢
    · exact hAB
    · have : (A : Int) * (B : Int) ≠ 0 := Int.mul_ne_zero (by omega) (by omega)
      omega
    · have : (A : Int) * (B : Int) ≠ 0 := Int.mul_ne_zero (by omega) (by omega)
      omega
    · exact hAB

end Go.Proofs.YteophaobcebppaaGreatDoor.dg

namespace Go.Proofs.YteophaobcebppaaGreatDoor.dg
open Ieee

/-- at most N / 1024. -/
structure Bd (N x : Nat) : Prop where
  num : Num x
  le : (sv x).natAbs ≤ N * ONE 1064

theorem ONE_split (a b : Nat) : ONE (a + b) = ONE a * ONE b := by unfold ONE; exact Nat.pow_add ..
theorem arith_pure {op : BinOp} {x y r : Nat} (h : Op.floatArith op .f64 x y = pure (.float .f64 r)) : Extern.MathAsm.arith op x y = pure r := by
  unfold Extern.MathAsm.arith
  rw [h]; rfl
theorem add_pure {x y r : Nat} (h : double.add x y = some r) : Extern.MathAsm.add x y = pure r := by
  refine arith_pure ?_
  have h2 : FloatKind.f64.format.add x y = some r := h
  unfold Op.floatArith
  simp only [h2]; rfl
theorem sub_pure {x y r : Nat} (h : double.sub x y = some r) : Extern.MathAsm.sub x y = pure r := by
  refine arith_pure ?_
  have h2 : FloatKind.f64.format.sub x y = some r := h
  unfold Op.floatArith
  simp only [h2]; rfl
theorem mul_pure {x y r : Nat} (h : double.mul x y = some r) : Extern.MathAsm.mul x y = pure r := by
  refine arith_pure ?_
  have h2 : FloatKind.f64.format.mul x y = some r := h
  unfold Op.floatArith
  simp only [h2]; rfl
theorem div_pure {x y r : Nat} (h : double.div x y = some r) : Extern.MathAsm.div x y = pure r := by
  refine arith_pure ?_
  have h2 : FloatKind.f64.format.div x y = some r := h
  unfold Op.floatArith
  simp only [h2]; rfl

theorem V_bigK {N K : Nat} (h : N ≤ 2 ^ 53) (hKT : K + 2 ≤ TOP) : ∃ r0, r0 < INF ∧ V r0 = N * ONE K := by
  obtain ⟨r, hr⟩ := V_surj K N h
  unfold ONE
  refine ⟨r, V_lt_iff.1 ?_, hr⟩
  rw [hr, V_INF]
  generalize TOP = T at *
  have h1 : N * 2 ^ K ≤ 2 ^ 53 * 2 ^ K := Nat.mul_le_mul_right _ h
  refine Nat.lt_of_le_of_lt h1 ?_
  rw [← Nat.pow_add, ← Nat.pow_add]
  exact Nat.pow_lt_pow_right (by omega) (by omega)
theorem V_big {N : Nat} (h : N ≤ 2 ^ 53) : ∃ r0, r0 < INF ∧ V r0 = N * ONE 1064 := V_bigK h (by decide)
theorem V_pow (s : Nat) : V (s * 2 ^ 52 + 2 ^ 52) = ONE (52 + s) := by
  rw [V_rung s (2 ^ 52) (by omega) (fun _ => Nat.le_refl _), ← Nat.pow_add]; unfold ONE; rfl

theorem Bd.of_rd {T : Int} {D r N : Nat} (h : Rd T D r) (hD : 0 < D) (hN : N ≤ 2 ^ 53) (hT : T.natAbs ≤ D * (N * ONE 1064)) : Bd N r := by
  obtain ⟨r0, h0, e⟩ := V_big hN
  rw [← e] at hT
  obtain ⟨a, b⟩ := h.abs hD h0 hT
  exact ⟨a, by rw [← e]; exact b⟩

theorem Bd.mono {N M x : Nat} (h : Bd N x) (hNM : N ≤ M) : Bd M x := ⟨h.num, Nat.le_trans h.le (Nat.mul_le_mul_right _ hNM)⟩

theorem add_bd {N M K x y : Nat} (hx : Bd N x) (hy : Bd M y) (h : N + M ≤ K) (hK : K ≤ 2 ^ 53) : ∃ r, Extern.MathAsm.add x y = pure r ∧ Bd K r ∧ Rd (sv x + sv y) 1 r := by
  obtain ⟨r, e, hr⟩ := add_sv hx.num hy.num
  refine ⟨r, add_pure e, Bd.of_rd hr (by omega) hK ?_, hr⟩
  have h1 := hx.le
  have h2 := hy.le
  have h3 : (N + M) * ONE 1064 ≤ K * ONE 1064 := Nat.mul_le_mul_right _ h
  rw [Nat.add_mul] at h3
  generalize ONE 1064 = u at *
  generalize sv x = a at *
  generalize sv y = b at *
  have := Int.natAbs_add_le a b
  omega

theorem sub_bd {N M K x y : Nat} (hx : Bd N x) (hy : Bd M y) (h : N + M ≤ K) (hK : K ≤ 2 ^ 53) : ∃ r, Extern.MathAsm.sub x y = pure r ∧ Bd K r ∧ Rd (sv x - sv y) 1 r := by
  obtain ⟨r, e, hr⟩ := sub_sv hx.num hy.num
  refine ⟨r, sub_pure e, Bd.of_rd hr (by omega) hK ?_, hr⟩
  have h1 := hx.le
  have h2 := hy.le
  have h3 : (N + M) * ONE 1064 ≤ K * ONE 1064 := Nat.mul_le_mul_right _ h
  rw [Nat.add_mul] at h3
  generalize ONE 1064 = u at *
  generalize sv x = a at *
  generalize sv y = b at *
  have := Int.natAbs_sub_le a b
  omega

theorem mul_bd {N M K x y : Nat} (hx : Bd N x) (hy : Bd M y) (h : N * M ≤ 1024 * K) (hK : K ≤ 2 ^ 53) : ∃ r, double.mul x y = some r ∧ Extern.MathAsm.mul x y = pure r ∧ Bd K r ∧ Rd (sv x * sv y) (ONE 1074) r := by
  obtain ⟨r, e, hr⟩ := mul_sv hx.num hy.num
  refine ⟨r, e, mul_pure e, Bd.of_rd hr (ONE_pos _) hK ?_, hr⟩
  have h1 := Nat.mul_le_mul hx.le hy.le
  have e3 : ONE 1074 = ONE 1064 * 1024 := by
    have : ONE (1064 + 10) = _ := ONE_split 1064 10
    rw [show ONE 10 = 1024 by unfold ONE; rfl] at this; exact this
  rw [Int.natAbs_mul, e3]
  refine Nat.le_trans h1 ?_
  have e4 : N * ONE 1064 * (M * ONE 1064) = ONE 1064 * ONE 1064 * (N * M) := by
    simp only [Nat.mul_assoc, Nat.mul_left_comm, Nat.mul_comm]
  have e5 : ONE 1064 * 1024 * (K * ONE 1064) = ONE 1064 * ONE 1064 * (1024 * K) := by
    simp only [Nat.mul_assoc, Nat.mul_left_comm, Nat.mul_comm]
  rw [e4, e5]
  exact Nat.mul_le_mul_left _ h

/-- the digits of a quotient, with the mark of what is left, are at most three halves of it. -/
theorem quo_digits {m n d : Nat} (hn : 0 < n) (hd : 1 ≤ d) : n * (2 * ((m <<< (d + n.log2 - m.log2)) / n) + ((m <<< (d + n.log2 - m.log2)) % n != 0).toNat) ≤ 3 * (m * 2 ^ (d + n.log2 - m.log2)) := by
  rw [Nat.shiftLeft_eq]
  by_cases hm : m = 0
  · subst hm; simp
  have h1 : 2 ^ m.log2 ≤ m := Nat.log2_self_le hm
  have h2 : n < 2 ^ (n.log2 + 1) := Nat.lt_log2_self
  have h3 : n ≤ m * 2 ^ (d + n.log2 - m.log2) := by
    have h4 : 2 ^ (n.log2 + 1) ≤ 2 ^ (m.log2 + (d + n.log2 - m.log2)) := Nat.pow_le_pow_right (by omega) (by omega)
    rw [Nat.pow_add 2 m.log2] at h4
    have h5 : 2 ^ m.log2 * 2 ^ (d + n.log2 - m.log2) ≤ m * 2 ^ (d + n.log2 - m.log2) := Nat.mul_le_mul_right _ h1
    omega
  generalize m * 2 ^ (d + n.log2 - m.log2) = D at *
  have h6 := Nat.div_add_mod D n
  have h7 : 1 ≤ D / n := (Nat.one_le_div_iff hn).2 h3
  have h8 : n * 1 ≤ n * (D / n) := Nat.mul_le_mul_left _ h7
  rw [Nat.mul_add, Nat.mul_left_comm]
  have h9 : n * (D % n != 0).toNat ≤ n := by cases (D % n != 0) <;> simp
  omega

theorem div_bd {N K x y : Nat} (hx : Bd N x) (hy : Num y) (hy1 : ONE 1074 ≤ (sv y).natAbs) (h : 3 * N ≤ 2 * K) (hK : K ≤ 2 ^ 53) : ∃ r, Extern.MathAsm.div x y = pure r ∧ Bd K r := by
  suffices h : ∃ r, double.div x y = some r ∧ Bd K r by
    obtain ⟨r, e, b⟩ := h
    exact ⟨r, div_pure e, b⟩
  have hxl := hx.le
  rw [sv_abs] at hxl hy1
  rw [V_mg] at hxl hy1
  unfold Format.div
  rw [read_fin hx.num.word hx.num.fin, read_fin hy.word hy.fin]
  generalize decide (2 ^ 63 ≤ x) = bx
  generalize decide (2 ^ 63 ≤ y) = bz
  generalize mg (x % 2 ^ 63) = m at *
  generalize mg (y % 2 ^ 63) = n at *
  generalize pl (x % 2 ^ 63) = p at *
  generalize pl (y % 2 ^ 63) = q at *
  have hn : n ≠ 0 := by
    intro e; rw [e, Nat.zero_mul] at hy1
    have := ONE_pos 1074
    omega
  obtain ⟨r0, h0, e0⟩ := V_big hK
  have hd : 1 ≤ double.fractionBits + 2 := by decide
  generalize double.fractionBits + 2 = d at hd
  simp only [Datum.quotient, if_neg hn, Option.map_some, Format.write, nearest_rz]
  refine ⟨_, rfl, ?_⟩
  have hq := quo_digits (m := m) (n := n) (d := d) (by omega) hd
  generalize d + n.log2 - m.log2 = more at *
  generalize (2 * ((m <<< more) / n) + ((m <<< more) % n != 0).toNat) = mag at *
  obtain ⟨K1, hK1⟩ : ∃ K1 : Nat, K1 = 1074 := ⟨_, rfl⟩
  obtain ⟨k, hk⟩ : ∃ k : Int, k = ((p : Nat) - 1074 : Int) - ((q : Nat) - 1074 : Int) - more - 1 + 1074 := ⟨_, rfl⟩
  rw [← hk]
  have hk2 : k.toNat + (q + more + 1) = (-k).toNat + (p + K1) := by omega
  have key : rz mag k ≤ r0 := by
    unfold rz
    refine rd_upper (Nat.two_pow_pos _) (Nat.le_of_lt h0) ?_
    have hp2 : 0 < n * 2 ^ (q + more + 1) := Nat.mul_pos (by omega) (Nat.two_pow_pos _)
    refine Nat.le_of_mul_le_mul_right ?_ hp2
    have f1 : mag * 2 ^ k.toNat * (n * 2 ^ (q + more + 1)) = n * mag * 2 ^ (p + K1) * 2 ^ (-k).toNat := by
      have : 2 ^ k.toNat * 2 ^ (q + more + 1) = 2 ^ (p + K1) * 2 ^ (-k).toNat := by rw [← Nat.pow_add, ← Nat.pow_add, hk2, Nat.add_comm]
      have e1 : mag * 2 ^ k.toNat * (n * 2 ^ (q + more + 1)) = n * mag * (2 ^ k.toNat * 2 ^ (q + more + 1)) := by
        simp only [Nat.mul_assoc, Nat.mul_left_comm, Nat.mul_comm]
      rw [e1, this, Nat.mul_assoc (n * mag)]
    rw [f1]
    have f2 : n * mag * 2 ^ (p + K1) ≤ 2 ^ more * 2 ^ K1 * (3 * (N * ONE 1064)) := by
      have g1 : n * mag * 2 ^ (p + K1) ≤ 3 * (m * 2 ^ more) * 2 ^ (p + K1) := Nat.mul_le_mul_right _ hq
      have g2 : 3 * (m * 2 ^ more) * 2 ^ (p + K1) = 2 ^ more * 2 ^ K1 * (3 * (m * 2 ^ p)) := by
        rw [Nat.pow_add]; simp only [Nat.mul_assoc, Nat.mul_left_comm, Nat.mul_comm]
      rw [g2] at g1
      exact Nat.le_trans g1 (Nat.mul_le_mul_left _ (Nat.mul_le_mul_left _ hxl))
    have f3 : 2 ^ more * 2 ^ K1 * (2 * (K * ONE 1064)) ≤ V r0 * (n * 2 ^ (q + more + 1)) := by
      rw [e0]
      have g1 : n * 2 ^ (q + more + 1) = n * 2 ^ q * (2 ^ more * 2) := by
        rw [Nat.pow_succ, Nat.pow_add]; simp only [Nat.mul_assoc]
      have g2 : ONE 1074 = 2 ^ K1 := by rw [hK1]; unfold ONE; rfl
      rw [g1]
      have g3 : 2 ^ K1 * (2 ^ more * 2) ≤ n * 2 ^ q * (2 ^ more * 2) := by
        rw [← g2]; exact Nat.mul_le_mul_right _ hy1
      have g4 := Nat.mul_le_mul_left (K * ONE 1064) g3
      have g5 : 2 ^ more * 2 ^ K1 * (2 * (K * ONE 1064)) = K * ONE 1064 * (2 ^ K1 * (2 ^ more * 2)) := by
        simp only [Nat.mul_assoc, Nat.mul_left_comm, Nat.mul_comm]
      rw [g5]; exact g4
    have f4 : 3 * (N * ONE 1064) ≤ 2 * (K * ONE 1064) := by
      rw [← Nat.mul_assoc, ← Nat.mul_assoc]; exact Nat.mul_le_mul_right _ h
    have f5 := Nat.le_trans f2 (Nat.le_trans (Nat.mul_le_mul_left _ f4) f3)
    have f6 := Nat.mul_le_mul_right (2 ^ (-k).toNat) f5
    have e2 : V r0 * (n * 2 ^ (q + more + 1)) * 2 ^ (-k).toNat = 2 ^ (-k).toNat * V r0 * (n * 2 ^ (q + more + 1)) := by
      simp only [Nat.mul_assoc, Nat.mul_left_comm, Nat.mul_comm]
    rw [← e2]; exact f6
  obtain ⟨a, b⟩ := word_val (bx ^^ bz) (k := rz mag k) (by omega)
  refine ⟨a, ?_⟩
  rw [b, ← e0]
  have h9 := V_le key
  generalize V (rz mag k) = v1 at *
  generalize V r0 = v0 at *
  split <;> omega

theorem const_bd {c j : Nat} (hj : j ≤ 20) (h : c ≤ (1023 + j) * 2 ^ 52) : Bd (2 ^ (10 + j)) c := by
  have hc : c < INF := by have := INF_val; omega
  refine ⟨Num.small hc, ?_⟩
  rw [sv_small hc, Int.natAbs_natCast]
  have h1 := V_le h
  have e : (1023 + j) * 2 ^ 52 = (1022 + j) * 2 ^ 52 + 2 ^ 52 := by omega
  rw [e, V_pow] at h1
  have e2 : 52 + (1022 + j) = 10 + j + 1064 := by omega
  have e3 : 2 ^ (10 + j) = ONE (10 + j) := by unfold ONE; rfl
  rw [e2, ONE_split, ← e3] at h1; exact h1

theorem V_one : V 4607182418800017408 = ONE 1074 := by
  have e : 4607182418800017408 = 1022 * 2 ^ 52 + 2 ^ 52 := by omega
  rw [e, V_pow]
theorem V_two : V 4611686018427387904 = 2 * ONE 1074 := by
  have e : 4611686018427387904 = 1023 * 2 ^ 52 + 2 ^ 52 := by omega
  have e2 : 2 * ONE 1074 = ONE 1075 := by
    have : ONE (1 + 1074) = _ := ONE_split 1 1074
    rw [show ONE 1 = 2 by unfold ONE; rfl] at this; exact this.symm
  rw [e, V_pow, e2]

theorem pure_s {α β : Type} (a : α) (f : α → Sem β) : (pure a >>= f) = f a := rfl

theorem int_bd {n : Int} (h : n.natAbs ≤ 1024) : Bd 1048576 (Extern.MathAsm.ofInt32 n) := by
  have e : Extern.MathAsm.ofInt32 n = double.word (decide (n < 0)) (rd (n * ((ONE 1074 : Nat) : Int)).natAbs 1) := by
    show double.nearest (decide (n < 0)) n.natAbs 0 = _
    rw [nearest_rz]
    refine congrArg (double.word _) ?_
    unfold rz ONE
    obtain ⟨K, hK⟩ : ∃ K : Nat, K = 1074 := ⟨_, rfl⟩
    rw [← hK]
    have e1 : ((0 : Int) + 1074).toNat = K := by omega
    have e2 : (-((0 : Int) + 1074)).toNat = 0 := by omega
    rw [e1, e2, natAbs_mul_pow, Nat.pow_zero]
  have hp : (0 : Int) < ((ONE 1074 : Nat) : Int) := by have := ONE_pos 1074; omega
  have h2 : Rd (n * ((ONE 1074 : Nat) : Int)) 1 (Extern.MathAsm.ofInt32 n) := by
    refine ⟨_, e, fun hne => ?_⟩
    by_cases hlt : n < 0
    · rw [decide_eq_true hlt, decide_eq_true (Int.mul_neg_of_neg_of_pos hlt hp)]
    · have := Int.mul_nonneg (a := n) (by omega) (Int.le_of_lt hp)
      rw [decide_eq_false hlt, decide_eq_false (by omega)]
  refine Bd.of_rd h2 (by omega) (by omega) ?_
  have h10 : ONE 1074 = 1024 * ONE 1064 := by
    have : ONE (10 + 1064) = _ := ONE_split 10 1064
    rw [show ONE 10 = 1024 by unfold ONE; rfl] at this; exact this
  rw [Int.natAbs_mul, Int.natAbs_natCast, h10, ← Nat.mul_assoc, Nat.one_mul]
  exact Nat.mul_le_mul_right _ (by omega)

set_option maxRecDepth 100000 in
open Extern.MathAsm in
theorem archlog_bd {x : Nat} (h0 : 0 < x) (h1 : x < INF) : ∃ r, Extern.MathLog.archLog #[.float .f64 x] = pure (.float .f64 r) ∧ Bd 3000000 r := by
  have hI := INF_val
  have hI2 := INF_lt
  have e0 : x % 2 ^ 63 = x := Nat.mod_eq_of_lt (by omega)
  have bone : Bd 1024 one := const_bd (j := 0) (by omega) (by decide)
  have bone2 : Bd 2048 one := bone.mono (by omega)
  have btwo : Bd 2048 two := const_bd (j := 1) (by omega) (by decide)
  have bhalf : Bd 1024 half := const_bd (j := 0) (by omega) (by decide)
  have bzero : Bd 1024 0 := const_bd (j := 0) (by omega) (by omega)
  have bf1 : Bd 1024 (x % 2 ^ 52 + half) := const_bd (j := 0) (by omega) (by unfold half; omega)
  have sf1 : 0 ≤ sv (x % 2 ^ 52 + half) := by rw [sv_small (by unfold half; omega)]; exact Int.natCast_nonneg _
  have bk : Bd 1048576 (ofInt32 (Int.ofNat (x / 2 ^ 52) - 0x3FE)) := int_bd (by
    have : x / 2 ^ 52 ≤ 2046 := by omega
    simp only [Int.ofNat_eq_natCast]; omega)
  delta Extern.MathLog.archLog Extern.MathLog.archLog.match_1
  dsimp only [List.size_toArray, List.length_cons, List.length_nil, Array.getLit]
  rw [dif_pos (show (#[Value.float .f64 x]).size = 1 from rfl)]
  have e1 : ((#[Value.float FloatKind.f64 x])[0]'Nat.zero_lt_one : Value) = .float .f64 x := rfl
  rw [e1]
  delta Extern.MathLog.archLog._sparseCasesOn_1 Extern.MathLog.archLog._sparseCasesOn_2
  dsimp only
  have c1 : ¬ ((x % 2 ^ 63 == 0) = true) := by rw [e0]; simp; omega
  have c2 : ¬ x ≥ 2 ^ 63 := by omega
  have c3 : ¬ x ≥ posInf := by unfold posInf; omega
  rw [if_neg c1, if_neg c2, if_neg c3]
  generalize (!lt 4604544271217802189 (x % 2 ^ 52 + half)) = small
  generalize x % 2 ^ 52 + half = f0 at *
  generalize ofInt32 (Int.ofNat (x / 2 ^ 52) - 0x3FE) = k0 at *
  have bsm : Bd 1024 (if small = true then one else 0) := by split <;> assumption
  have ssm : 0 ≤ sv (if small = true then one else 0) := by
    split
    · rw [sv_small (by unfold one; omega)]; exact Int.natCast_nonneg _
    · rw [sv_small (by omega)]; exact Int.natCast_nonneg _
  generalize (if small = true then one else 0) = sm at *
  have vone : sv one = (ONE 1074 : Int) := by
    rw [sv_small (by unfold one; omega)]; unfold one; rw [V_one]
  have vtwo : sv two = (2 * ONE 1074 : Int) := by
    rw [sv_small (by unfold two; omega)]; unfold two; rw [V_two]; rfl
  have h10 : ONE 1074 = 1024 * ONE 1064 := by
    have : ONE (10 + 1064) = _ := ONE_split 10 1064
    rw [show ONE 10 = 1024 by unfold ONE; rfl] at this; exact this
  obtain ⟨k, e, Bk, -⟩ := sub_bd (K := 1049600) bk bsm (by omega) (by omega); rw [e, pure_s]; clear e
  obtain ⟨g, e, Bg, Rg⟩ := add_bd (K := 2048) bsm bone (by omega) (by omega); rw [e, pure_s]; clear e
  obtain ⟨f1, -, e, Bf1, Rf1⟩ := mul_bd (K := 2048) bf1 Bg (by omega) (by omega); rw [e, pure_s]; clear e
  have sg : 0 ≤ sv g := by
    have := Rg.low (by omega) Bg.num INF_pos (by rw [V_zero, vone]; have := ONE_pos 1074; omega)
    rw [V_zero] at this; exact this
  have sf : 0 ≤ sv f1 := by
    have := Rf1.low (ONE_pos _) Bf1.num INF_pos (by rw [V_zero, Nat.mul_zero]; exact Int.mul_nonneg sf1 sg)
    rw [V_zero] at this; exact this
  obtain ⟨f, e, -, Rf⟩ := sub_bd (K := 4096) Bf1 bone2 (by omega) (by omega); rw [e, pure_s]; clear e
  have Bf : Bd 1024 f := by
    refine Bd.of_rd Rf (by omega) (by omega) ?_
    have := Bf1.le
    rw [vone, h10]
    generalize ONE 1064 = u at *
    generalize sv f1 = a at *
    omega
  obtain ⟨g2, e, Bg2, Rg2⟩ := add_bd (K := 4096) btwo Bf (by omega) (by omega); rw [e, pure_s]; clear e
  have sg2 : ONE 1074 ≤ (sv g2).natAbs := by
    have h := Rg2.low (r0 := 4607182418800017408) (by omega) Bg2.num (by omega) (by
      have := Bf.le
      rw [V_one, vtwo]
      rw [← h10] at this
      generalize ONE 1074 = u at *
      generalize sv f = a at *
      omega)
    rw [V_one] at h
    generalize ONE 1074 = u at *
    generalize sv g2 = a at *
    omega
  obtain ⟨s, e, Bs⟩ := div_bd (K := 1536) Bf Bg2.num sg2 (by omega) (by omega); rw [e, pure_s]; clear e
  obtain ⟨s2, -, e, Bs2, -⟩ := mul_bd (K := 2304) Bs Bs (by omega) (by omega); rw [e, pure_s]; clear e
  obtain ⟨s4, -, e, Bs4, -⟩ := mul_bd (K := 5184) Bs2 Bs2 (by omega) (by omega); rw [e, pure_s]; clear e
  have bc : ∀ c, c ≤ 1023 * 2 ^ 52 → Bd 1024 c := fun c h => const_bd (j := 0) (by omega) h
  obtain ⟨a1, -, e, B1, -⟩ := mul_bd (K := 5184) (bc 4594499633228436036 (by omega)) Bs4 (by omega) (by omega); rw [e, pure_s]; clear e
  obtain ⟨a2, e, B2, -⟩ := add_bd (K := 6208) B1 (bc 4595719342595441630 (by omega)) (by omega) (by omega); rw [e, pure_s]; clear e
  obtain ⟨a3, -, e, B3, -⟩ := mul_bd (K := 31428) B2 Bs4 (by omega) (by omega); rw [e, pure_s]; clear e
  obtain ⟨a4, e, B4, -⟩ := add_bd (K := 32452) B3 (bc 4598818590951641945 (by omega)) (by omega) (by omega); rw [e, pure_s]; clear e
  obtain ⟨a5, -, e, B5, -⟩ := mul_bd (K := 164289) B4 Bs4 (by omega) (by omega); rw [e, pure_s]; clear e
  obtain ⟨a6, e, B6, -⟩ := add_bd (K := 165313) B5 (bc 4604180019048437139 (by omega)) (by omega) (by omega); rw [e, pure_s]; clear e
  obtain ⟨t1, -, e, T1, -⟩ := mul_bd (K := 371955) Bs2 B6 (by omega) (by omega); rw [e, pure_s]; clear e
  obtain ⟨a7, -, e, B7, -⟩ := mul_bd (K := 5184) (bc 4594685411790997151 (by omega)) Bs4 (by omega) (by omega); rw [e, pure_s]; clear e
  obtain ⟨a8, e, B8, -⟩ := add_bd (K := 6208) B7 (bc 4597174411056806063 (by omega)) (by omega) (by omega); rw [e, pure_s]; clear e
  obtain ⟨a9, -, e, B9, -⟩ := mul_bd (K := 31428) B8 Bs4 (by omega) (by omega); rw [e, pure_s]; clear e
  obtain ⟨a10, e, B10, -⟩ := add_bd (K := 32452) B9 (bc 4600877379321592324 (by omega)) (by omega) (by omega); rw [e, pure_s]; clear e
  obtain ⟨t2, -, e, T2, -⟩ := mul_bd (K := 164289) Bs4 B10 (by omega) (by omega); rw [e, pure_s]; clear e
  obtain ⟨r, e, Br, -⟩ := add_bd (K := 536244) T1 T2 (by omega) (by omega); rw [e, pure_s]; clear e
  obtain ⟨b1, -, e, C1, -⟩ := mul_bd (K := 1024) bhalf Bf (by omega) (by omega); rw [e, pure_s]; clear e
  obtain ⟨hf, -, e, Hf, -⟩ := mul_bd (K := 1024) C1 Bf (by omega) (by omega); rw [e, pure_s]; clear e
  obtain ⟨b2, e, C2, -⟩ := add_bd (K := 537268) Br Hf (by omega) (by omega); rw [e, pure_s]; clear e
  obtain ⟨b3, -, e, C3, -⟩ := mul_bd (K := 805902) Bs C2 (by omega) (by omega); rw [e, pure_s]; clear e
  obtain ⟨b4, -, e, C4, -⟩ := mul_bd (K := 1049600) (bc 4461442080421002358 (by omega)) Bk (by omega) (by omega); rw [e, pure_s]; clear e
  obtain ⟨inn, e, Bi, -⟩ := add_bd (K := 1855502) C3 C4 (by omega) (by omega); rw [e, pure_s]; clear e
  obtain ⟨b5, -, e, C5, -⟩ := mul_bd (K := 1049600) Bk (bc 4604418534311723008 (by omega)) (by omega) (by omega); rw [e, pure_s]; clear e
  obtain ⟨b6, e, C6, -⟩ := sub_bd (K := 1856526) Hf Bi (by omega) (by omega); rw [e, pure_s]; clear e
  obtain ⟨b7, e, C7, -⟩ := sub_bd (K := 1857550) C6 Bf (by omega) (by omega); rw [e, pure_s]; clear e
  obtain ⟨z, e, Bz, -⟩ := sub_bd (K := 3000000) C5 C7 (by omega) (by omega); rw [e, pure_s]; clear e
  exact ⟨z, rfl, Bz⟩

end Go.Proofs.YteophaobcebppaaGreatDoor.dg

namespace Go.Proofs.YteophaobcebppaaGreatDoor.dg
open Ieee Go.RowKit
set_option linter.unusedVariables false

theorem cut_low (way : Toward) (s : Bool) (n drop : Nat) : ∃ low, way.cut s n drop ≤ low + 1 ∧ low * 2 ^ drop ≤ n ∧ (way = .zero → way.cut s n drop = low) := by
  refine ⟨n / (1 <<< min drop (n.log2 + 2)), ?_, ?_, ?_⟩
  · unfold Toward.cut
    simp only
    have : ∀ b : Bool, b.toNat ≤ 1 := fun b => by cases b <;> decide
    exact Nat.add_le_add_left (this _) _
  · rw [Nat.one_shiftLeft]
    rcases Nat.le_total drop (n.log2 + 2) with h | h
    · rw [Nat.min_eq_left h]; exact Nat.div_mul_le_self _ _
    · rw [Nat.min_eq_right h]
      have h1 : n < 2 ^ (n.log2 + 1) := Nat.lt_log2_self
      have h2 : 2 ^ (n.log2 + 1) ≤ 2 ^ (n.log2 + 2) := Nat.pow_le_pow_right (by omega) (by omega)
      rw [Nat.div_eq_of_lt (by omega), Nat.zero_mul]; exact Nat.zero_le _
  · rintro rfl; unfold Toward.cut; simp

theorem low_scale {m low p : Nat} (h : low * 2 ^ (-(((p : Nat) : Int) - 1074)).toNat ≤ m <<< (((p : Nat) : Int) - 1074).toNat) : low * ONE 1074 ≤ m * 2 ^ p := by
  rw [Nat.shiftLeft_eq] at h
  obtain ⟨K, hK⟩ : ∃ K : Nat, K = 1074 := ⟨_, rfl⟩
  have e : (((p : Nat) : Int) - 1074).toNat + K = p + (-(((p : Nat) : Int) - 1074)).toNat := by omega
  rw [← hK]
  generalize (((p : Nat) : Int) - 1074).toNat = a at *
  generalize (-(((p : Nat) : Int) - 1074)).toNat = b at *
  unfold ONE
  have h1 := Nat.mul_le_mul_right (2 ^ K) h
  have e2 : m * 2 ^ a * 2 ^ K = m * 2 ^ p * 2 ^ b := by rw [Nat.mul_assoc, ← Nat.pow_add, e, Nat.pow_add, Nat.mul_assoc]
  have e3 : low * 2 ^ b * 2 ^ K = low * 2 ^ K * 2 ^ b := Nat.mul_right_comm ..
  rw [e2, e3] at h1
  exact Nat.le_of_mul_le_mul_right h1 (Nat.two_pow_pos b)

theorem archfloor_bd {N x : Nat} (h : Bd N x) (hN : N ≤ 2 ^ 50) : ∃ r, Extern.MathFloor.toIntegral "math.archFloor" .down #[.float .f64 x] = pure (.float .f64 r) ∧ Bd (N + 1024) r := by
  have e1 : FloatKind.f64.decode x = .number (decide (2 ^ 63 ≤ x)) (mg (x % 2 ^ 63)) ((pl (x % 2 ^ 63) : Nat) - 1074 : Int) := read_fin h.num.word h.num.fin
  refine ⟨_, (by
    delta Extern.MathFloor.toIntegral Extern.MathFloor.toIntegral.match_2
    dsimp only [List.size_toArray, List.length_cons, List.length_nil, Array.getLit]
    rw [dif_pos (show (#[Value.float .f64 x]).size = 1 from rfl)]
    have e2 : ((#[Value.float FloatKind.f64 x])[0]'Nat.zero_lt_one : Value) = .float .f64 x := rfl
    rw [e2]
    delta Extern.MathFloor.toIntegral._sparseCasesOn_2 Extern.MathFloor.toIntegral._sparseCasesOn_3
    dsimp only
    rw [e1]), ?_⟩
  have hv := h.le
  rw [sv_abs, V_mg] at hv
  generalize decide (2 ^ 63 ≤ x) = s at *
  generalize mg (x % 2 ^ 63) = m at *
  generalize pl (x % 2 ^ 63) = p at *
  obtain ⟨low, h1, h2, -⟩ := cut_low .down s (m <<< (((p : Nat) : Int) - 1074).toNat) (-(((p : Nat) : Int) - 1074)).toNat
  have h3 := low_scale h2
  show Bd (N + 1024) (double.nearest s (Toward.down.cut s (m <<< (((p : Nat) : Int) - 1074).toNat) (-(((p : Nat) : Int) - 1074)).toNat) 0)
  generalize Toward.down.cut s (m <<< (((p : Nat) : Int) - 1074).toNat) (-(((p : Nat) : Int) - 1074)).toNat = c at *
  rw [nearest_rz]
  obtain ⟨r0, h0, e0⟩ := V_big (N := N + 1024) (by omega)
  have h10 : ONE 1074 = 1024 * ONE 1064 := by
    have : ONE (10 + 1064) = _ := ONE_split 10 1064
    rw [show ONE 10 = 1024 by unfold ONE; rfl] at this; exact this
  have hk : rz c (0 + 1074) ≤ r0 := by
    unfold rz
    refine rd_upper (Nat.two_pow_pos _) (Nat.le_of_lt h0) ?_
    obtain ⟨K, hK⟩ : ∃ K : Nat, K = 1074 := ⟨_, rfl⟩
    have e1 : ((0 : Int) + 1074).toNat = K := by omega
    have e2 : (-((0 : Int) + 1074)).toNat = 0 := by omega
    rw [e1, e2, Nat.pow_zero, Nat.one_mul, e0]
    have e3 : 2 ^ K = ONE 1074 := by rw [hK]; unfold ONE; rfl
    rw [e3]
    have h4 : c * ONE 1074 ≤ (low + 1) * ONE 1074 := Nat.mul_le_mul_right _ h1
    rw [Nat.add_mul, Nat.one_mul] at h4
    rw [Nat.add_mul]
    omega
  obtain ⟨a, b⟩ := word_val s (k := rz c (0 + 1074)) (by omega)
  refine ⟨a, ?_⟩
  rw [b, ← e0]
  have h9 := V_le hk
  generalize V (rz c (0 + 1074)) = v1 at *
  generalize V r0 = v0 at *
  split <;> omega

theorem toInt_bd {N x : Nat} (h : Bd N x) (hN : N ≤ 2 ^ 50) : ∃ n : Int, (double.read x).toInt .zero = some n ∧ n.natAbs * 1024 ≤ N := by
  rw [read_fin h.num.word h.num.fin]
  have hv := h.le
  rw [sv_abs, V_mg] at hv
  generalize decide (2 ^ 63 ≤ x) = s at *
  generalize mg (x % 2 ^ 63) = m at *
  generalize pl (x % 2 ^ 63) = p at *
  refine ⟨_, rfl, ?_⟩
  obtain ⟨low, -, h2, h1⟩ := cut_low .zero s (m <<< (((p : Nat) : Int) - 1074).toNat) (-(((p : Nat) : Int) - 1074)).toNat
  have h3 := low_scale h2
  rw [h1 rfl, signed_eq, Nat.pow_zero, Nat.mul_one]
  have h10 : ONE 1074 = 1024 * ONE 1064 := by
    have : ONE (10 + 1064) = _ := ONE_split 10 1064
    rw [show ONE 10 = 1024 by unfold ONE; rfl] at this; exact this
  have e : (if s = true then -((low : Nat) : Int) else ((low : Nat) : Int)).natAbs = low := by split <;> omega
  rw [e]
  refine Nat.le_of_mul_le_mul_right (c := ONE 1064) ?_ (ONE_pos _)
  rw [Nat.mul_assoc, ← h10]
  omega

theorem archfloor_call {N x : Nat} (h : Bd N x) (hN : N ≤ 2 ^ 50) : ∃ r, (∀ w, (callFunc 72 #[.float .f64 x]).run Tryz.prog w = .ok (.value (.float .f64 r)) w) ∧ Bd (N + 1024) r := by
  obtain ⟨r, e, b⟩ := archfloor_bd h hN
  refine ⟨r, fun w => ?_, b⟩
  rw [run_callFunc_extern Tryz.func72 (by kernel_rfl) (by kernel_rfl) (by kernel_rfl) (e := Extern.MathFloor.toIntegral "math.archFloor" .down) (by kernel_rfl)]
  rw [e]; rfl

theorem archlog_call {x : Nat} (h0 : 0 < x) (h1 : x < INF) : ∃ r, (∀ w, (callFunc 130 #[.float .f64 x]).run Tryz.prog w = .ok (.value (.float .f64 r)) w) ∧ Bd 3000000 r := by
  obtain ⟨r, e, b⟩ := archlog_bd h0 h1
  refine ⟨r, fun w => ?_, b⟩
  rw [run_callFunc_extern Tryz.func130 (by kernel_rfl) (by kernel_rfl) (by kernel_rfl) (e := Extern.MathLog.archLog) (by kernel_rfl)]
  rw [e]; rfl

theorem floor_any {N x : Nat} (h : Bd N x) (hN : N ≤ 2 ^ 50) (w : World) :
    Calls Tryz.prog 35 #[.float .f64 x] w fun e w' => ∃ r, e = .returned (.float .f64 r) ∧ Bd (N + 1024) r ∧ w = w' := by
  obtain ⟨r, hr, b⟩ := archfloor_call h hN
  go_enter Tryz.func35, Tryz.ntmps35
  go_wp2
  go_ret
  exact ⟨r, rfl, b, rfl⟩

theorem log_any {x : Nat} (h0 : 0 < x) (h1 : x < INF) (w : World) :
    Calls Tryz.prog 112 #[.float .f64 x] w fun e w' => ∃ r, e = .returned (.float .f64 r) ∧ Bd 3000000 r ∧ w = w' := by
  obtain ⟨r, hr, b⟩ := archlog_call h0 h1
  go_enter Tryz.func112, Tryz.ntmps112
  go_wp2
  go_ret
  exact ⟨r, rfl, b, rfl⟩

theorem log10in_any {x : Nat} (h0 : 0 < x) (h1 : x < INF) (w : World) :
    Calls Tryz.prog 75 #[.float .f64 x] w fun e w' => ∃ r, e = .returned (.float .f64 r) ∧ Bd 3000000 r ∧ w = w' := by
  have h2 : ∀ r, Bd 3000000 r → ∃ z, floatBits .mul .f64 r 4601495173785380110 = some z ∧ Bd 3000000 z := fun r b => by
    obtain ⟨z, e, -, bz, -⟩ := mul_bd (K := 3000000) b (const_bd (c := 4601495173785380110) (j := 0) (by omega) (by omega)) (by omega) (by omega)
    exact ⟨z, e, bz⟩
  have H2 := Lib.hid h2; clear h2
  go_enter Tryz.func75, Tryz.ntmps75
  go_wp2_with fail
  refine (log_any h0 h1 _).mono ?_
  rintro e w' ⟨r, rfl, b, rfl⟩
  obtain ⟨z, hz, bz⟩ := H2.out r b
  have hrun := fun w => run_float_arith (P := Tryz.prog) w .mul 23 .f64 r 4601495173785380110 z hz
  clear hz
  go_wp2_with fail
  go_ret
  exact ⟨z, rfl, bz, rfl⟩

theorem log10_any {x : Nat} (h0 : 0 < x) (h1 : x < INF) (w : World) :
    Calls Tryz.prog 36 #[.float .f64 x] w fun e w' => ∃ r, e = .returned (.float .f64 r) ∧ Bd 3000000 r ∧ w = w' := by
  go_enter Tryz.func36, Tryz.ntmps36
  go_wp2_with (go_at_call 75; refine (log10in_any h0 h1 _).mono ?_; rintro e w' ⟨r, rfl, b, rfl⟩)
  go_ret
  exact ⟨r, rfl, b, rfl⟩

theorem and_2047u (E : Nat) (h : E ≤ 2046) : bits .and .u64 (E : Int) 2047 = (E : Int) := by
  have h1 : (BitVec.ofInt 64 (E : Int)).toNat = E := by
    rw [BitVec.ofInt_natCast, BitVec.toNat_ofNat]; exact Nat.mod_eq_of_lt (by omega)
  have h2 : (BitVec.ofInt 64 (2047 : Int)).toNat = 2 ^ 11 - 1 := by decide
  show IntKind.u64.wrap ((BitVec.ofInt 64 (E : Int) &&& BitVec.ofInt 64 (2047 : Int)).toNat : Int) = _
  rw [BitVec.toNat_and, h1, h2, Nat.and_two_pow_sub_one_eq_mod, Nat.mod_eq_of_lt (by omega), IntKind.wrap_u64]
  omega

theorem ret_fi {a b : Nat} {c d : Int} (h : a = b) (h2 : c = d) : Ending.returned (.tuple #[.float .f64 a, .int .i64 c]) = .returned (.tuple #[.float .f64 b, .int .i64 d]) := by rw [h, h2]

set_option maxRecDepth 100000 in
theorem frexp_pos (r : Nat) (w : World) (h0 : 0 < r) (h1 : r < INF) :
    Calls Tryz.prog 106 #[.float .f64 r] w fun en w' => ∃ (f k E : Nat), en = .returned (.tuple #[.float .f64 (1022 * 2 ^ 52 + f), .int .i64 ((E : Int) - 1022 - k)]) ∧ f < 2 ^ 52 ∧ k ≤ 52 ∧ 1 ≤ E ∧ E ≤ 2046 ∧ V r * 2 ^ k = (2 ^ 52 + f) * 2 ^ (E - 1) ∧ w = w' := by
  have hI := INF_val
  have hB : r < B64 := by have := INF_lt; rw [B64_pow]; omega
  have t0 : (FloatKind.f64.format.order r 0 == some Ordering.eq) = false := by
    rw [rung_order (by omega) (by omega), cmp_gt (by omega)]; rfl
  have t1 : isInfW r = false := by unfold isInfW; rw [Nat.mod_eq_of_lt (by omega), decide_eq_false (by omega)]
  have t2 : isNaN r = false := by unfold isNaN; rw [Nat.mod_eq_of_lt (by omega), decide_eq_false (by omega)]
  go_enter Tryz.func106, Tryz.ntmps106
  go_wp2_with (first | (go_at_call 110; refine (isinf_any _ _ hB).mono ?_; rw [t1]; rintro e w' ⟨rfl, rfl⟩) | (go_at_call 109; refine (isnan_any _ _ hB).mono ?_; rw [t2]; rintro e w' ⟨rfl, rfl⟩) | fail)
  refine (normalize_any r _ h0 h1).mono ?_
  rintro en w' ⟨r2, k, rfl, hk, h2, h3, hV, rfl⟩
  obtain ⟨E, f, hr2, hE0, hE1, hf⟩ : ∃ E f, r2 = E * 2 ^ 52 + f ∧ 1 ≤ E ∧ E ≤ 2046 ∧ f < 2 ^ 52 := ⟨r2 / 2 ^ 52, r2 % 2 ^ 52, by omega, by omega, by omega, by omega⟩
  have q1 : ((r2 : Nat) : Int) / 4503599627370496 = (E : Int) := by omega
  have q2 := and_2047u E hE1
  have q3 : bits .andNot .u64 (r2 : Int) 9218868437227405312 = ((f : Nat) : Int) := by
    rw [andNot_exp r2 (by omega)]; congr 1; omega
  have q4 : bits .or .u64 ((f : Nat) : Int) 4602678819172646912 = ((1022 * 2 ^ 52 + f : Nat) : Int) := by
    have := or_hi 52 f 1022 hf (by rw [B64_pow]; omega) (by rw [B64_pow]; omega)
    rw [show ((2 ^ 52 * 1022 : Nat) : Int) = 4602678819172646912 by omega] at this
    rw [this]
  have HV := Lib.hid hV; clear hV
  have HR := Lib.hid hr2; clear hr2
  go_wp2_with fail
  go_ret2
  refine ⟨f, k, E, ?_, hf, hk, hE0, hE1, ?_, rfl⟩
  · exact ret_fi rfl (by omega)
  · have e9 : E * 2 ^ 52 + f = 2 ^ 52 * E + f := by rw [Nat.mul_comm]
    rw [← HV.out, HR.out, e9, V_normal hE0 hf]

theorem frexp_any (r : Nat) (w : World) (h0 : 0 < r) (h1 : r < INF) :
    Calls Tryz.prog 69 #[.float .f64 r] w fun en w' => ∃ (f k E : Nat), en = .returned (.tuple #[.float .f64 (1022 * 2 ^ 52 + f), .int .i64 ((E : Int) - 1022 - k)]) ∧ f < 2 ^ 52 ∧ k ≤ 52 ∧ 1 ≤ E ∧ E ≤ 2046 ∧ V r * 2 ^ k = (2 ^ 52 + f) * 2 ^ (E - 1) ∧ w = w' := by
  go_enter Tryz.func69, Tryz.ntmps69
  go_wp2_with (go_at_call 106; refine (frexp_pos r _ h0 h1).mono ?_; rintro e w' ⟨f, k, E, rfl, hf, hk, hE0, hE1, hV, rfl⟩)
  go_ret2
  exact ⟨f, k, E, rfl, hf, hk, hE0, hE1, hV, rfl⟩

end Go.Proofs.YteophaobcebppaaGreatDoor.dg

namespace Go.Proofs.YteophaobcebppaaGreatDoor.dg
open Go.RowKit
set_option linter.unusedVariables false

/-- the number of a float that stands for a whole one of 53 bits. -/
theorem whole_float {M : Nat} (h0 : 2 ^ 52 ≤ M) (h1 : M < 2 ^ 53) : floatToIntVal .f64 (1074 * 2 ^ 52 + M) .u64 = some (M : Int) := by
  have hI := INF_val
  have hI2 := INF_lt
  have e1 : FloatKind.f64.decode (1074 * 2 ^ 52 + M) = .number false (mg (1074 * 2 ^ 52 + M)) ((pl (1074 * 2 ^ 52 + M) : Nat) - 1074 : Int) := read_rung (by omega)
  have e2 : mg (1074 * 2 ^ 52 + M) = M := by unfold mg; rw [if_neg (by omega)]; omega
  have e3 : pl (1074 * 2 ^ 52 + M) = 1074 := by unfold pl; omega
  rw [e2, e3] at e1
  have e4 : (FloatKind.f64.decode (1074 * 2 ^ 52 + M)).toInt .zero = some (M : Int) := by
    rw [e1]
    show some (Ieee.signed false (Ieee.Toward.zero.cut false (M <<< ((((1074 : Nat) : Int) - 1074)).toNat) (-((((1074 : Nat) : Int) - 1074))).toNat) 0) = _
    have e5 : (((1074 : Nat) : Int) - 1074).toNat = 0 := by omega
    have e6 : (-(((1074 : Nat) : Int) - 1074)).toNat = 0 := by omega
    rw [e5, e6, signed_false, Nat.pow_zero, Nat.mul_one]
    have e7 : M <<< 0 = M := rfl
    have e8 : Ieee.Toward.zero.cut false M 0 = M := by
      unfold Ieee.Toward.cut; simp
    rw [e7, e8]
  unfold floatToIntVal
  rw [e4]
  have h2 : IntKind.u64.min ≤ (M : Int) ∧ (M : Int) ≤ IntKind.u64.max := by
    have a1 : IntKind.u64.min = 0 := by decide
    have a2 : IntKind.u64.max = 18446744073709551615 := by decide
    rw [a1, a2]; omega
  simp only [h2, and_self, if_true]

theorem frac_up {f : Nat} (hf : f < 2 ^ 52) : rz (V (1022 * 2 ^ 52 + f)) 53 = 1074 * 2 ^ 52 + (2 ^ 52 + f) := by
  have hI := INF_val
  obtain ⟨E, hE⟩ : ∃ E : Nat, E = 1022 := ⟨_, rfl⟩
  obtain ⟨K, hK⟩ : ∃ K : Nat, K = 1074 := ⟨_, rfl⟩
  have e0 : 1022 * 2 ^ 52 + f = 2 ^ 52 * E + f := by omega
  have e1 : V (2 ^ 52 * E + f) = (2 ^ 52 + f) * 2 ^ (E - 1) := V_normal (by omega) hf
  have e2 : (53 : Int) = ((53 : Nat) : Int) := rfl
  rw [e0, e1, e2, rz_nat, Nat.mul_assoc, ← Nat.pow_add]
  have e3 : E - 1 + 53 = K := by omega
  rw [e3, ← V_rung K (2 ^ 52 + f) (by omega) (by omega), ← hK]
  exact rd_V (by omega)

/-- the two whole numbers of a rung: their quotient is its value. -/
structure Parts (r A B : Nat) : Prop where
  eq : V r * B = A * ONE 1074
  pos : 0 < B
  lenA : (words A).length ≤ 2000
  lenB : (words B).length ≤ 2000

theorem words_two (k : Nat) : (words (2 ^ k)).length ≤ k + 1 :=
  words_len_of_lt (Nat.lt_of_lt_of_le (Nat.pow_lt_pow_right (by omega) (Nat.lt_succ_self k)) (Nat.pow_le_pow_left (by rw [B64_def]; omega) _))

theorem words_small {m : Nat} (h : m < B64) : (words m).length ≤ 1 := words_len_of_lt (by rw [Nat.pow_one]; exact h)

theorem parts_high {r f k E : Nat} {e : Int} (hf : f < 2 ^ 52) (hV : V r * 2 ^ k = (2 ^ 52 + f) * 2 ^ (E - 1)) (hE1 : E ≤ 2046) (he : (e : Int) = (E : Int) - 1022 - k - 53) (h0 : 0 ≤ e) : Parts r ((2 ^ 52 + f) * 2 ^ e.toNat) 1 := by
  obtain ⟨K, hK⟩ : ∃ K : Nat, K = 1074 := ⟨_, rfl⟩
  refine ⟨?_, by omega, ?_, ?_⟩
  · refine Nat.eq_of_mul_eq_mul_right (Nat.two_pow_pos k) ?_
    unfold ONE
    rw [Nat.mul_one, hV, ← hK, Nat.mul_assoc, Nat.mul_assoc, ← Nat.pow_add, ← Nat.pow_add]
    congr 2; omega
  · have h1 := words_mul (2 ^ 52 + f) (2 ^ e.toNat)
    have h2 := words_two e.toNat
    have h3 := words_small (m := 2 ^ 52 + f) (by rw [B64_def]; omega)
    omega
  · have := words_small (m := 1) (by rw [B64_def]; omega)
    omega

theorem parts_low {r f k E : Nat} {e : Int} (hf : f < 2 ^ 52) (hV : V r * 2 ^ k = (2 ^ 52 + f) * 2 ^ (E - 1)) (hE0 : 1 ≤ E) (hk : k ≤ 52) (he : (e : Int) = (E : Int) - 1022 - k - 53) (h0 : e < 0) : Parts r (2 ^ 52 + f) (2 ^ (-e).toNat) := by
  obtain ⟨K, hK⟩ : ∃ K : Nat, K = 1074 := ⟨_, rfl⟩
  refine ⟨?_, Nat.two_pow_pos _, ?_, ?_⟩
  · refine Nat.eq_of_mul_eq_mul_right (Nat.two_pow_pos k) ?_
    unfold ONE
    rw [Nat.mul_right_comm, hV, ← hK, Nat.mul_assoc, Nat.mul_assoc, ← Nat.pow_add, ← Nat.pow_add]
    congr 2; omega
  · have := words_small (m := 2 ^ 52 + f) (by rw [B64_def]; omega)
    omega
  · have h2 := words_two (-e).toNat
    omega

set_option maxRecDepth 100000 in
theorem dparts_any (r : Nat) (w : World) (h0 : 0 < r) (h1 : r < INF) :
    Calls Tryz.prog 34 #[.float .f64 r] w fun en w' => ∃ v1 v2 A B, en = .returned (.tuple #[v1, v2]) ∧ Rd64 w' v1 (words A) ∧ Rd64 w' v2 (words B) ∧ Parts r A B ∧ Below w.heap.size w w' := by
  have H1 : Hid (∀ M : Nat, 2 ^ 52 ≤ M → M < 2 ^ 53 → ∀ w, (convert 23 27 (.float .f64 (1074 * 2 ^ 52 + M))).run Tryz.prog w = .ok (.int .u64 (M : Int)) w) := Lib.hid fun M a b w => by
    exact run_convert_float_int w 23 27 .f64 .u64 _ _ (by kernel_rfl) (by kernel_rfl) (whole_float a b)
  go_enter Tryz.func34, Tryz.ntmps34
  go_wp2_with fail
  refine (frexp_any r _ h0 h1).mono ?_
  rintro en w' ⟨f, k, E, rfl, hf, hk, hE0, hE1, hV, rfl⟩
  have HV := Lib.hid hV; clear hV
  obtain ⟨x, hx⟩ : ∃ x, x = 1022 * 2 ^ 52 + f := ⟨_, rfl⟩
  rw [← hx]
  have hx2 : rz (V x) 53 = 1074 * 2 ^ 52 + (2 ^ 52 + f) := by rw [hx]; exact frac_up hf
  have hxI : x < INF := by have := INF_val; omega
  obtain ⟨M, hM⟩ : ∃ M, M = 2 ^ 52 + f := ⟨_, rfl⟩
  rw [← hM] at hx2
  have hc := H1.out M (by omega) (by omega)
  obtain ⟨y, hy⟩ : ∃ y, y = 1074 * 2 ^ 52 + M := ⟨_, rfl⟩
  rw [← hy] at hc hx2
  obtain ⟨e, he⟩ : ∃ e : Int, e = (E : Int) - 1022 - k := ⟨_, rfl⟩
  rw [← he]
  have hb0 : -2000 ≤ e := by omega
  have hb1 : e ≤ 2000 := by omega
  have HE := Lib.hid he; clear he
  have hMB : M < B64 := by rw [B64_def]; omega
  have HX := Lib.hid hx; have HY := Lib.hid hy; have HM := Lib.hid hM
  clear hx hy hM
  go_wp2_with fail
  refine (ldexp_any x 53 _ hxI (by omega) (by omega)).mono ?_
  rintro en w' ⟨rfl, rfl⟩
  rw [hx2]
  go_wp2_with fail
  refine (of_any (M : Int) _ (Int.natCast_nonneg _) (by omega)).mono ?_
  rintro en w1 ⟨v, rfl, hv, hb1⟩
  rw [Int.toNat_natCast] at hv
  have HB1 := Lib.hid hb1; have HVV := Lib.hid hv
  clear hb1 hv
  have h64 : (1 : Int).toNat = 1 := rfl
  have w1l := words_small (m := 1) (by rw [B64_def]; omega)
  have wMl := words_small hMB
  by_cases hneg : 53 ≤ e
  · have hP := parts_high (e := e - 53) hf HV.out hE1 (by have := HE.out; omega) (by omega)
    rw [← HM.out] at hP
    have HP := Lib.hid hP; clear hP
    go_wp2_with fail
    with_reducible refine (left_any _ M (e - 53) _ HVV.out (by omega) (by omega) (by omega)).mono ?_
    rintro en w2 ⟨v1, rfl, hv1, hf1, hb2⟩
    have HV1 := Lib.hid hv1; have HB2 := Lib.hid hb2; clear hv1 hf1 hb2
    go_wp2_with fail
    refine (of_any 1 _ (by omega) (by rw [B64_def]; omega)).mono ?_
    rintro en w3 ⟨v2, rfl, hv2, hb3⟩
    rw [h64] at hv2
    have HV2 := Lib.hid hv2; have HB3 := Lib.hid hb3; clear hv2 hb3
    go_wp2_with fail
    go_ret2
    exact ⟨v1, v2, _, _, rfl, HV1.out.below HB3.out, HV2.out, HP.out, HB1.out.trans ((HB2.out.mono HB1.out.size).trans (HB3.out.mono (by have := HB1.out.size; have := HB2.out.size; omega)))⟩
  · have hP := parts_low (e := e - 53) hf HV.out hE0 hk (by have := HE.out; omega) (by omega)
    rw [← HM.out] at hP
    have HP := Lib.hid hP; clear hP
    go_wp2_with fail
    refine (of_any 1 _ (by omega) (by rw [B64_def]; omega)).mono ?_
    rintro en w2 ⟨v1, rfl, hv1, hb2⟩
    rw [h64] at hv1
    have HV1 := Lib.hid hv1; have HB2 := Lib.hid hb2; clear hv1 hb2
    go_wp2_with fail
    with_reducible refine (left_any _ 1 (-(e - 53)) _ HV1.out (by omega) (by omega) (by omega)).mono ?_
    rintro en w3 ⟨v2, rfl, hv2, hf2, hb3⟩
    rw [Nat.one_mul] at hv2
    have HV2 := Lib.hid hv2; have HB3 := Lib.hid hb3; clear hv2 hf2 hb3
    go_wp2_with fail
    go_ret2
    exact ⟨v, v2, _, _, rfl, HVV.out.below (HB2.out.trans (HB3.out.mono HB2.out.size)), HV2.out, HP.out, HB1.out.trans ((HB2.out.mono HB1.out.size).trans (HB3.out.mono (by have := HB1.out.size; have := HB2.out.size; omega)))⟩

end Go.Proofs.YteophaobcebppaaGreatDoor.dg

namespace Go.Proofs.YteophaobcebppaaGreatDoor.dg
open Go.RowKit
set_option linter.unusedVariables false

/-- is A / B below ten to n? -/
def lt10 (A B : Nat) (n : Int) : Bool := decide (A * 10 ^ (-n).toNat < B * 10 ^ n.toNat)

theorem lt10_pos {A B : Nat} {n : Int} (h : 0 ≤ n) : lt10 A B n = decide (A < B * 10 ^ n.toNat) := by
  unfold lt10
  rw [show (-n).toNat = 0 by omega, Nat.pow_zero, Nat.mul_one]
theorem lt10_neg {A B : Nat} {n : Int} (h : n < 0) : lt10 A B n = decide (A * 10 ^ (-n).toNat < B) := by
  unfold lt10
  rw [show n.toNat = 0 by omega, Nat.pow_zero, Nat.mul_one]

theorem below_any (va vb : Value) (A B : Nat) (n : Int) (w : World) (ha : Rd64 w va (words A)) (hb : Rd64 w vb (words B)) (hlA : (words A).length ≤ 2000) (hlB : (words B).length ≤ 2000) (h0 : -20000 ≤ n) (h1 : n ≤ 20000) :
    Calls Tryz.prog 37 #[va, vb, .int .i64 n] w fun en w' => en = .returned (.bool (lt10 A B n)) ∧ Below w.heap.size w w' := by
  have HA := Lib.hid ha; have HB := Lib.hid hb
  clear ha hb
  by_cases hn : 0 ≤ n
  · rw [lt10_pos hn]
    have ht := words_ten n.toNat
    go_enter Tryz.func37, Tryz.ntmps37
    go_wp2_with fail
    refine (ten_any n _ hn (by omega)).mono ?_
    rintro en w1 ⟨v1, rfl, hv1, hb1⟩
    have HV1 := Lib.hid hv1; have HB1 := Lib.hid hb1; clear hv1 hb1
    go_wp2_with fail
    with_reducible refine (mul_any _ _ B (10 ^ n.toNat) _ (HB.out.below HB1.out) HV1.out (by omega)).mono ?_
    rintro en w2 ⟨v2, rfl, hv2, hb2⟩
    have HV2 := Lib.hid hv2; have HB2 := Lib.hid hb2; clear hv2 hb2
    have HB12 := Lib.hid (HB1.out.trans (HB2.out.mono HB1.out.size))
    go_wp2_with fail
    with_reducible refine (cmp_any _ _ A (B * 10 ^ n.toNat) _ (HA.out.below HB12.out) HV2.out).mono ?_
    rintro en w3 ⟨r, rfl, hst, nd, rfl⟩
    have HST := Lib.hid hst; clear hst
    go_wp2_with fail
    go_ret
    refine ⟨?_, below_drewN HB12.out nd⟩
    have : decide (r < 0) = decide (A < B * 10 ^ n.toNat) := decide_eq_decide.2 HST.out.1
    rw [this]; rfl
  · rw [lt10_neg (by omega)]
    have ht := words_ten (-n).toNat
    go_enter Tryz.func37, Tryz.ntmps37
    go_wp2_with fail
    refine (ten_any (-n) _ (by omega) (by omega)).mono ?_
    rintro en w1 ⟨v1, rfl, hv1, hb1⟩
    have HV1 := Lib.hid hv1; have HB1 := Lib.hid hb1; clear hv1 hb1
    go_wp2_with fail
    with_reducible refine (mul_any _ _ A (10 ^ (-n).toNat) _ (HA.out.below HB1.out) HV1.out (by omega)).mono ?_
    rintro en w2 ⟨v2, rfl, hv2, hb2⟩
    have HV2 := Lib.hid hv2; have HB2 := Lib.hid hb2; clear hv2 hb2
    have HB12 := Lib.hid (HB1.out.trans (HB2.out.mono HB1.out.size))
    go_wp2_with fail
    with_reducible refine (cmp_any _ _ (A * 10 ^ (-n).toNat) B _ HV2.out (HB.out.below HB12.out)).mono ?_
    rintro en w3 ⟨r, rfl, hst, nd, rfl⟩
    have HST := Lib.hid hst; clear hst
    go_wp2_with fail
    go_ret
    refine ⟨?_, below_drewN HB12.out nd⟩
    have : decide (r < 0) = decide (A * 10 ^ (-n).toNat < B) := decide_eq_decide.2 HST.out.1
    rw [this]; rfl

end Go.Proofs.YteophaobcebppaaGreatDoor.dg

namespace Go.Proofs.YteophaobcebppaaGreatDoor.dg
open Ieee
set_option linter.unusedVariables false

theorem decv_one (d : Nat) (k : Int) : decv d k = rd (d * 10 ^ k.toNat * ONE 1074) (10 ^ (-k).toNat) := by
  unfold decv ONE; rfl

/-- a number's gaps are not narrow. -/
theorem gap_up (r : Nat) : V r ≤ 2 ^ 53 * (V (r + 1) - V r) := by
  obtain ⟨s, k, rfl, h1, h2⟩ := rung_split r
  rw [V_rung s k (by omega) h2, Nat.add_assoc, V_rung s (k + 1) (by omega) (by intro h; have := h2 h; omega), Nat.add_mul, Nat.one_mul, Nat.add_sub_cancel_left]
  exact Nat.mul_le_mul_right _ (by omega)
theorem gap_down {r : Nat} (h : 0 < r) : V r ≤ 2 ^ 53 * (V r - V (r - 1)) := by
  obtain ⟨s, k, rfl, h1, h2⟩ := rung_split r
  by_cases hk : s = 0 ∨ 2 ^ 52 < k
  · have e : s * 2 ^ 52 + k - 1 = s * 2 ^ 52 + (k - 1) := by omega
    have hk1 : 1 ≤ k := by omega
    rw [e, V_rung s k (by omega) h2, V_rung s (k - 1) (by omega) (by omega)]
    have e2 : k * 2 ^ s - (k - 1) * 2 ^ s = 2 ^ s := by
      rw [← Nat.sub_mul, show k - (k - 1) = 1 by omega, Nat.one_mul]
    rw [e2]
    exact Nat.mul_le_mul_right _ (by omega)
  · have hk2 : k = 2 ^ 52 := by have := h2 (by omega); omega
    subst hk2
    obtain ⟨t, rfl⟩ : ∃ t, s = t + 1 := ⟨s - 1, by omega⟩
    have e : (t + 1) * 2 ^ 52 + 2 ^ 52 - 1 = t * 2 ^ 52 + (2 ^ 53 - 1) := by omega
    rw [e, V_rung (t + 1) (2 ^ 52) (by omega) h2, V_rung t (2 ^ 53 - 1) (by omega) (by omega), show 2 ^ (t + 1) = 2 ^ t * 2 from Nat.pow_succ ..]
    have e2 : 2 ^ 52 * (2 ^ t * 2) - (2 ^ 53 - 1) * 2 ^ t = 2 ^ t := by
      have : 2 ^ 52 * (2 ^ t * 2) = 2 ^ 53 * 2 ^ t := by rw [Nat.mul_comm (2 ^ t) 2, ← Nat.mul_assoc]
      rw [this, ← Nat.sub_mul]; simp
    rw [e2, show 2 ^ 52 * (2 ^ t * 2) = 2 ^ 53 * 2 ^ t by rw [Nat.mul_comm (2 ^ t) 2, ← Nat.mul_assoc]]
    exact Nat.le_refl _

/-- what lies within half a part in ten to the sixteenth of a number is nearest to it. -/
theorem near_close {X Y r : Nat} (hr : 0 < r) (hI : r < INF) (hY : 0 < Y) (h1 : 2 * 10 ^ 16 * X ≤ (2 * 10 ^ 16 + 1) * (Y * V r)) (h2 : (2 * 10 ^ 16 - 1) * (Y * V r) ≤ 2 * 10 ^ 16 * X) : Near X Y r := by
  have hVp := V_pos hr
  have gu := gap_up r
  have gd := gap_down hr
  have lu : V r < V (r + 1) := V_succ r
  have ld : V (r - 1) < V r := V_lt (by omega)
  obtain ⟨a, ha⟩ : ∃ a, V (r + 1) = V r + a := ⟨V (r + 1) - V r, by omega⟩
  obtain ⟨b, hb⟩ : ∃ b, V r = V (r - 1) + b := ⟨V r - V (r - 1), by omega⟩
  have gu2 : V r ≤ 2 ^ 53 * a := by rw [ha, Nat.add_sub_cancel_left] at gu; exact gu
  have gd2 : V r ≤ 2 ^ 53 * b := by
    have : V r - V (r - 1) = b := by omega
    rwa [this] at gd
  have yu : Y * V r ≤ 2 ^ 53 * (Y * a) := by
    have := Nat.mul_le_mul_left Y gu2
    rw [Nat.mul_left_comm] at this; exact this
  have yd : Y * V r ≤ 2 ^ 53 * (Y * b) := by
    have := Nat.mul_le_mul_left Y gd2
    rw [Nat.mul_left_comm] at this; exact this
  have yp : 0 < Y * V r := Nat.mul_pos hY hVp
  have e1 : Y * (V r + V (r + 1)) = 2 * (Y * V r) + Y * a := by rw [ha]; simp only [Nat.mul_add]; omega
  have e2 : Y * (V (r - 1) + V r) + Y * b = 2 * (Y * V r) := by
    have : Y * V r = Y * V (r - 1) + Y * b := by rw [← Nat.mul_add, ← hb]
    simp only [Nat.mul_add]; omega
  refine ⟨by omega, fun _ => ?_, fun _ => ?_⟩
  · have : Y * (V (r - 1) + V r) < 2 * X := by omega
    exact ⟨by omega, by omega⟩
  · have : 2 * X < Y * (V r + V (r + 1)) := by omega
    exact ⟨by omega, by omega⟩

/-- where the point of a number stands. -/
def Place (r : Nat) (p : Int) : Prop := lt10 (V r) (ONE 1074) p = true ∧ lt10 (V r) (ONE 1074) (p - 1) = false

def numS (r : Nat) (p : Int) (n : Nat) : Nat := V r * 10 ^ ((n : Int) - p).toNat
def denS (p : Int) (n : Nat) : Nat := ONE 1074 * 10 ^ (p - (n : Int)).toNat

/-- which n digits, if any, are read as the number: the nearest, of two the even ones. -/
def pick (r : Nat) (p : Int) (n : Nat) : Option Nat :=
  let q := numS r p n / denS p n
  let t := numS r p n % denS p n
  let lo := decide (decv q (p - n) = r)
  let hi := decide (decv (q + 1) (p - n) = r)
  if lo = false ∧ hi = false then none
  else if lo = false ∨ hi = true ∧ (denS p n < 2 * t ∨ 2 * t = denS p n ∧ q % 2 = 1) then some (q + 1) else some q

/-- l are a number's shortest digits, and its point stands behind so many. -/
def IsShort (r : Nat) (l : List UInt8) (at_ : Int) : Prop :=
  ∃ (p : Int) (n q : Nat), Place r p ∧ 1 ≤ n ∧ n ≤ 17 ∧ (∀ j, 1 ≤ j → j < n → pick r p j = none) ∧ pick r p n = some q ∧ l = Lib.trimRightB (Lib.decDigits q) 48 ∧ at_ = p - n + (Lib.decDigits q).length

theorem lt10_iff (A B : Nat) (n : Int) : lt10 A B n = true ↔ A * 10 ^ (-n).toNat < B * 10 ^ n.toNat := by unfold lt10; exact decide_eq_true_iff
theorem lt10_false (A B : Nat) (n : Int) : lt10 A B n = false ↔ B * 10 ^ n.toNat ≤ A * 10 ^ (-n).toNat := by
  unfold lt10; rw [decide_eq_false_iff_not]; exact Nat.not_lt

theorem lt10_up {A B : Nat} {m n : Int} (hmn : m ≤ n) (h : lt10 A B m = true) : lt10 A B n = true := by
  rw [lt10_iff] at h ⊢
  obtain ⟨j, rfl⟩ : ∃ j : Nat, n = m + j := ⟨(n - m).toNat, by omega⟩
  have e : (-m).toNat + (m + j).toNat = m.toNat + (-(m + j)).toNat + j := by omega
  have hp : 0 < 10 ^ (-m).toNat := Nat.pow_pos (by omega)
  refine Nat.lt_of_mul_lt_mul_right (a := 10 ^ (-m).toNat) ?_
  have h1 : A * 10 ^ (-(m + j)).toNat * 10 ^ (-m).toNat < B * 10 ^ m.toNat * 10 ^ (-(m + j)).toNat := by
    rw [Nat.mul_right_comm]; exact Nat.mul_lt_mul_of_pos_right h (Nat.pow_pos (by omega))
  refine Nat.lt_of_lt_of_le h1 ?_
  rw [Nat.mul_assoc, Nat.mul_assoc, ← Nat.pow_add, ← Nat.pow_add]
  refine Nat.mul_le_mul_left _ (Nat.pow_le_pow_right (by omega) (by omega))

theorem place_unique {r : Nat} {p q : Int} (hp : Place r p) (hq : Place r q) : p = q := by
  rcases Int.lt_trichotomy p q with h | h | h
  · have := lt10_up (show p ≤ q - 1 by omega) hp.1
    rw [hq.2] at this; exact absurd this (by simp)
  · exact h
  · have := lt10_up (show q ≤ p - 1 by omega) hq.1
    rw [hp.2] at this; exact absurd this (by simp)

theorem isShort_unique {r : Nat} {l l' : List UInt8} {a a' : Int} (h : IsShort r l a) (h' : IsShort r l' a') : l = l' ∧ a = a' := by
  obtain ⟨p, n, q, hp, h1, h2, h3, h4, rfl, rfl⟩ := h
  obtain ⟨p', n', q', hp', h1', h2', h3', h4', rfl, rfl⟩ := h'
  obtain rfl := place_unique hp hp'
  have hn : n = n' := by
    rcases Nat.lt_trichotomy n n' with h | h | h
    · have := h3' n h1 h; rw [h4] at this; cases this
    · exact h
    · have := h3 n' h1' h; rw [h4'] at this; cases this
  subst hn
  rw [h4] at h4'
  cases h4'
  exact ⟨rfl, rfl⟩

theorem denS_pos (p : Int) (n : Nat) : 0 < denS p n := Nat.mul_pos (ONE_pos _) (Nat.pow_pos (by omega))

/-- d in the place that n digits reach is read as what rounds d parts of that place. -/
theorem decv_rd (d : Nat) (p : Int) (n : Nat) : decv d (p - n) = rd (d * denS p n) (10 ^ ((n : Int) - p).toNat) := by
  rw [decv_one]
  unfold denS
  have e : (-(p - (n : Int))).toNat = ((n : Int) - p).toNat := by omega
  rw [e, Nat.mul_assoc, Nat.mul_comm (10 ^ (p - (n : Int)).toNat)]

theorem pick17 {r : Nat} {p : Int} (h0 : 0 < r) (hI : r < INF) (hp : Place r p) : pick r p 17 ≠ none := by
  have hden := denS_pos p 17
  have hY : 0 < 10 ^ (((17 : Nat) : Int) - p).toNat := Nat.pow_pos (by omega)
  have hN : numS r p 17 = 10 ^ (((17 : Nat) : Int) - p).toNat * V r := Nat.mul_comm _ _
  have hge : 10 ^ 16 * denS p 17 ≤ numS r p 17 := by
    have h := hp.2
    rw [lt10_false] at h
    unfold denS numS
    have hpp : 0 < 10 ^ (-(p - 1)).toNat := Nat.pow_pos (by omega)
    refine Nat.le_of_mul_le_mul_right (c := 10 ^ (-(p - 1)).toNat) ?_ hpp
    have e1 : 10 ^ 16 * (ONE 1074 * 10 ^ (p - ((17 : Nat) : Int)).toNat) * 10 ^ (-(p - 1)).toNat = ONE 1074 * 10 ^ (16 + (p - ((17 : Nat) : Int)).toNat + (-(p - 1)).toNat) := by
      rw [Nat.pow_add, Nat.pow_add]; simp only [Nat.mul_assoc, Nat.mul_comm]
    have e2 : 16 + (p - ((17 : Nat) : Int)).toNat + (-(p - 1)).toNat = (p - 1).toNat + (((17 : Nat) : Int) - p).toNat := by omega
    rw [e1, e2, Nat.pow_add, ← Nat.mul_assoc]
    have := Nat.mul_le_mul_right (10 ^ (((17 : Nat) : Int) - p).toNat) h
    refine Nat.le_trans this (Nat.le_of_eq ?_)
    simp only [Nat.mul_left_comm, Nat.mul_comm]
  intro hn
  unfold pick at hn
  simp only at hn
  rw [decv_rd, decv_rd] at hn
  generalize denS p 17 = D at *
  generalize numS r p 17 = N at *
  generalize 10 ^ (((17 : Nat) : Int) - p).toNat = Y at *
  have hdm := Nat.div_add_mod N D
  have hml : N % D < D := Nat.mod_lt _ hden
  have hcase : rd (N / D * D) Y = r ∨ rd ((N / D + 1) * D) Y = r := by
    rw [Nat.mul_comm D] at hdm
    by_cases hc : 2 * (N % D) ≤ D
    · left
      refine (near_rd hY (near_close h0 hI hY ?_ ?_)).symm
      · rw [← hN]; omega
      · rw [← hN]; omega
    · right
      have e : (N / D + 1) * D = N / D * D + D := by rw [Nat.add_mul, Nat.one_mul]
      refine (near_rd hY (near_close h0 hI hY ?_ ?_)).symm
      · rw [← hN, e]; omega
      · rw [← hN, e]; omega
  rcases hcase with h | h
  · rw [decide_eq_true h] at hn
    simp only [Bool.true_eq_false, false_and, if_false] at hn
    split at hn <;> cases hn
  · rw [decide_eq_true h] at hn
    simp only [Bool.true_eq_false, and_false, if_false] at hn
    split at hn <;> cases hn

end Go.Proofs.YteophaobcebppaaGreatDoor.dg

namespace Go.Proofs.YteophaobcebppaaGreatDoor.dg
open Ieee
set_option linter.unusedVariables false

theorem u8_digit {k : Nat} (h : k < 10) : (UInt8.ofNat (48 + k)).toNat = 48 + k := by
  rw [UInt8.toNat_ofNat']; omega

theorem dec_all (u : Nat) : AllD (Lib.decDigits u) := by
  induction u using Nat.strongRecOn with
  | _ u ih =>
    rw [Lib.decDigits]
    split
    · rename_i h
      intro c hc
      rw [List.mem_singleton] at hc
      rw [hc, u8_digit h]; omega
    · rename_i h
      refine AllD.append (ih (u / 10) (by omega)) ?_
      intro c hc
      rw [List.mem_singleton] at hc
      rw [hc, u8_digit (by omega)]; omega

theorem dec_val (u : Nat) : dval (Lib.decDigits u) = u := by
  induction u using Nat.strongRecOn with
  | _ u ih =>
    rw [Lib.decDigits]
    split
    · rename_i h
      rw [dval_cons, dval_nil, u8_digit h]; simp
    · rename_i h
      rw [dval_append, ih (u / 10) (by omega), dval_cons, dval_nil, u8_digit (by omega)]
      simp; omega

theorem dec_head {u : Nat} (h : 0 < u) : ∀ c r, Lib.decDigits u = c :: r → c ≠ 48 := by
  induction u using Nat.strongRecOn with
  | _ u ih =>
    intro c r e
    rw [Lib.decDigits] at e
    split at e
    · rename_i h1
      cases e
      intro h2
      have := u8_digit h1
      rw [h2] at this
      have e48 : (48 : UInt8).toNat = 48 := rfl
      omega
    · rename_i h1
      have hne : Lib.decDigits (u / 10) ≠ [] := by
        intro e2
        have := Lib.decDigits_length (u / 10)
        rw [e2] at this
        have := Lib.nDigits_pos (u / 10)
        simp at *; omega
      cases h3 : Lib.decDigits (u / 10) with
      | nil => exact absurd h3 hne
      | cons a b =>
        rw [h3] at e
        cases e
        exact ih (u / 10) (by omega) (by omega) _ _ h3

theorem dec_ne (u : Nat) : Lib.decDigits u ≠ [] := by
  intro e
  have := Lib.decDigits_length u
  rw [e] at this
  have := Lib.nDigits_pos u
  simp at *; omega

theorem nDigits_le {u k : Nat} (hk : 1 ≤ k) (h : u < 10 ^ k) : Lib.nDigits u ≤ k := by
  induction k generalizing u with
  | zero => omega
  | succ k ih =>
    by_cases h1 : u < 10
    · rw [Lib.nDigits_small h1]; omega
    · rw [Lib.nDigits_big h1]
      have h2 : u / 10 < 10 ^ k := by rw [Nat.pow_succ] at h; omega
      have hk0 : k ≠ 0 := by
        intro e; subst e; simp at h; omega
      have := ih (by omega) h2
      omega

theorem trimL_fix {l : List UInt8} (h : ∀ c r, l = c :: r → c ≠ 48) : Lib.trimLeftB l 48 = l := by
  cases l with
  | nil => rfl
  | cons a b =>
    have := h a b rfl
    unfold Lib.trimLeftB
    rw [List.dropWhile_cons_of_neg]
    simpa using this

theorem trimR_fix {l : List UInt8} (h : ∀ c r, l = r ++ [c] → c ≠ 48) : Lib.trimRightB l 48 = l := by
  unfold Lib.trimRightB
  cases hr : l.reverse with
  | nil => rw [List.reverse_eq_nil_iff.1 hr]; rfl
  | cons a b =>
    have e : l = b.reverse ++ [a] := by
      have := congrArg List.reverse hr
      simpa using this
    have := h a b.reverse e
    rw [List.dropWhile_cons_of_neg (by simpa using this), ← hr, List.reverse_reverse]

/-- a numeral without its noughts behind: what it is. -/
structure Trim (d : Nat) (s : List UInt8) (z : Nat) : Prop where
  split : Lib.decDigits d = s ++ List.replicate z 48
  ne : s ≠ []
  all : AllD s
  head : ∀ c r, s = c :: r → c ≠ 48
  last : ∀ c r, s = r ++ [c] → c ≠ 48
  val : d = dval s * 10 ^ z
  len : s.length + z = (Lib.decDigits d).length

theorem trim_dec {d : Nat} (h : 0 < d) : ∃ z, Trim d (Lib.trimRightB (Lib.decDigits d) 48) z := by
  obtain ⟨z, hz⟩ := right_split (Lib.decDigits d)
  have hne := right_nil (dec_ne d) (dec_head h)
  refine ⟨z, hz, hne, (dec_all d).right, ?_, fun c r e => right_last e, ?_, ?_⟩
  · intro c r e
    refine dec_head h c (r ++ List.replicate z 48) ?_
    rw [hz, e]; rfl
  · have := dec_val d
    rw [hz, dval_append, dval_zeros, List.length_replicate] at this
    omega
  · have := congrArg List.length hz
    rw [List.length_append, List.length_replicate] at this
    exact this.symm

theorem decv_shift (s z : Nat) (k : Int) : decv (s * 10 ^ z) k = decv s (k + z) := by
  rw [decv_one, decv_one]
  refine rd_congr (Nat.pow_pos (by omega)) (Nat.pow_pos (by omega)) ?_
  have e : z + k.toNat + (-(k + (z : Int))).toNat = (k + (z : Int)).toNat + (-k).toNat := by omega
  have e1 : s * 10 ^ z * 10 ^ k.toNat * ONE 1074 * 10 ^ (-(k + (z : Int))).toNat = s * ONE 1074 * 10 ^ (z + k.toNat + (-(k + (z : Int))).toNat) := by
    rw [Nat.pow_add, Nat.pow_add]; simp only [Nat.mul_assoc, Nat.mul_left_comm, Nat.mul_comm]
  have e2 : s * 10 ^ (k + (z : Int)).toNat * ONE 1074 * 10 ^ (-k).toNat = s * ONE 1074 * 10 ^ ((k + (z : Int)).toNat + (-k).toNat) := by
    rw [Nat.pow_add]; simp only [Nat.mul_assoc, Nat.mul_left_comm, Nat.mul_comm]
  rw [e1, e2, e]

/-- the reading of a numeral without its noughts behind, at its point. -/
theorem readP_trim {d : Nat} {s : List UInt8} {z : Nat} (ht : Trim d s z) (k : Int) (hl : s.length ≤ 800) (h0 : -400 ≤ k + (Lib.decDigits d).length) (h1 : k + (Lib.decDigits d).length ≤ 400) : readP s (k + (Lib.decDigits d).length) = decv d k := by
  have e1 := trimL_fix ht.head
  have e2 := trimR_fix ht.last
  have hlen := ht.len
  have hlI : (((Lib.decDigits d).length : Nat) : Int) = s.length + z := by omega
  unfold readP
  simp only [e1, e2]
  have e3 : decv d k = decv (dval s) (k + z) := by rw [← decv_shift, ← ht.val]
  rw [if_neg (by intro h; rcases h with h | h; exact ht.ne h; omega), if_neg (by omega), if_neg (by omega), if_neg (by omega), e3]
  have e4 : k + ((Lib.decDigits d).length : Int) - ((s.length : Int) - (s.length : Int)) - (s.length : Int) = k + (z : Int) := by omega
  rw [e4]

/-! ### a number's place -/

theorem big_low : 2 ^ 1074 < 10 ^ 330 := by decide +kernel
theorem big_high : 2 ^ 52 * 2 ^ 2046 < 2 ^ 1074 * 10 ^ 310 := by decide +kernel

theorem place_range {r : Nat} {p : Int} (h0 : 0 < r) (hI : r < INF) (hp : Place r p) : -330 ≤ p ∧ p ≤ 311 := by
  obtain ⟨K, hK⟩ : ∃ K : Nat, K = 330 := ⟨_, rfl⟩
  have hone : ONE 1074 < 10 ^ K := by rw [hK]; unfold ONE; exact big_low
  obtain ⟨L, hL⟩ : ∃ L : Nat, L = 310 := ⟨_, rfl⟩
  have htop : V r < ONE 1074 * 10 ^ L := by
    have h1 := V_lt hI
    have h2 : V INF < ONE 1074 * 10 ^ L := by rw [V_INF, hL]; unfold ONE TOP; exact big_high
    exact Nat.lt_trans h1 h2
  have hV := V_pos h0
  constructor
  · rcases Int.lt_or_le p (-330) with h | h
    · exfalso
      have h1 := lt10_up (show p ≤ -330 by omega) hp.1
      rw [lt10_iff] at h1
      have e1 : (-(-330 : Int)).toNat = K := by omega
      have e2 : (-330 : Int).toNat = 0 := rfl
      rw [e1, e2, Nat.pow_zero, Nat.mul_one] at h1
      have h3 : 1 * 10 ^ K ≤ V r * 10 ^ K := Nat.mul_le_mul_right _ hV
      rw [Nat.one_mul] at h3
      exact absurd (Nat.lt_of_le_of_lt h3 h1) (Nat.lt_asymm hone)
    · exact h
  · rcases Int.lt_or_le 311 p with h | h
    · exfalso
      have h1 : lt10 (V r) (ONE 1074) 310 = true := by
        rw [lt10_iff]
        have e1 : (-(310 : Int)).toNat = 0 := rfl
        have e2 : (310 : Int).toNat = L := by omega
        rw [e1, e2, Nat.pow_zero, Nat.mul_one]; exact htop
      have := lt10_up (show (310 : Int) ≤ p - 1 by omega) h1
      rw [hp.2] at this; cases this
    · exact h

/-! ### the same, by a number's parts -/

theorem lt10_parts {r A B : Nat} (h : Parts r A B) (n : Int) : lt10 A B n = lt10 (V r) (ONE 1074) n := by
  have hB := h.pos
  have hO := ONE_pos 1074
  have he := h.eq
  have key : (A * 10 ^ (-n).toNat < B * 10 ^ n.toNat) ↔ (V r * 10 ^ (-n).toNat < ONE 1074 * 10 ^ n.toNat) := by
    constructor
    · intro h1
      refine Nat.lt_of_mul_lt_mul_right (a := B) ?_
      have := Nat.mul_lt_mul_of_pos_right h1 hO
      rw [Nat.mul_right_comm, he, Nat.mul_right_comm A, ] at *
      rw [Nat.mul_right_comm (ONE 1074), Nat.mul_comm (ONE 1074) B, Nat.mul_right_comm B (ONE 1074)]
      exact this
    · intro h1
      refine Nat.lt_of_mul_lt_mul_right (a := ONE 1074) ?_
      have := Nat.mul_lt_mul_of_pos_right h1 hB
      rw [Nat.mul_right_comm, he, Nat.mul_right_comm (ONE 1074), Nat.mul_comm (ONE 1074) B, Nat.mul_right_comm B (ONE 1074)] at this
      rw [Nat.mul_right_comm A]
      exact this
  unfold lt10
  exact decide_eq_decide.2 key

theorem frac_same {N D N' D' : Nat} (hD : 0 < D) (hD' : 0 < D') (h : N * D' = N' * D) : N / D = N' / D' ∧ (N % D) * D' = (N' % D') * D := by
  have h1 : N / D = N' / D' := by
    have a := Nat.mul_div_mul_right N D hD'
    have b := Nat.mul_div_mul_right N' D' hD
    rw [← a, h, Nat.mul_comm D D', b]
  refine ⟨h1, ?_⟩
  have a := Nat.div_add_mod N D
  have b := Nat.div_add_mod N' D'
  have c : (D * (N / D) + N % D) * D' = (D' * (N' / D') + N' % D') * D := by rw [a, b, h]
  rw [Nat.add_mul, Nat.add_mul, h1] at c
  have e : D * (N' / D') * D' = D' * (N' / D') * D := by simp only [Nat.mul_left_comm, Nat.mul_comm]
  omega

/-- the digits that n places reach, of a number in its parts. -/
theorem pick_parts {r A B : Nat} (h : Parts r A B) (p : Int) (n : Nat) :
    (A * 10 ^ ((n : Int) - p).toNat) / (B * 10 ^ (p - (n : Int)).toNat) = numS r p n / denS p n ∧
    (2 * ((A * 10 ^ ((n : Int) - p).toNat) % (B * 10 ^ (p - (n : Int)).toNat)) < B * 10 ^ (p - (n : Int)).toNat ↔ 2 * (numS r p n % denS p n) < denS p n) ∧
    (2 * ((A * 10 ^ ((n : Int) - p).toNat) % (B * 10 ^ (p - (n : Int)).toNat)) = B * 10 ^ (p - (n : Int)).toNat ↔ 2 * (numS r p n % denS p n) = denS p n) := by
  have hD : 0 < B * 10 ^ (p - (n : Int)).toNat := Nat.mul_pos h.pos (Nat.pow_pos (by omega))
  have hD' := denS_pos p n
  have he : A * 10 ^ ((n : Int) - p).toNat * denS p n = numS r p n * (B * 10 ^ (p - (n : Int)).toNat) := by
    unfold numS denS
    have := h.eq
    have e1 : A * 10 ^ ((n : Int) - p).toNat * (ONE 1074 * 10 ^ (p - (n : Int)).toNat) = A * ONE 1074 * (10 ^ ((n : Int) - p).toNat * 10 ^ (p - (n : Int)).toNat) := by
      simp only [Nat.mul_assoc, Nat.mul_left_comm, Nat.mul_comm]
    have e2 : V r * 10 ^ ((n : Int) - p).toNat * (B * 10 ^ (p - (n : Int)).toNat) = V r * B * (10 ^ ((n : Int) - p).toNat * 10 ^ (p - (n : Int)).toNat) := by
      simp only [Nat.mul_assoc, Nat.mul_left_comm, Nat.mul_comm]
    rw [e1, e2, this]
  obtain ⟨h1, h2⟩ := frac_same hD hD' he
  refine ⟨h1, ?_, ?_⟩
  all_goals
    generalize (A * 10 ^ ((n : Int) - p).toNat) % (B * 10 ^ (p - (n : Int)).toNat) = x at *
    generalize B * 10 ^ (p - (n : Int)).toNat = D at *
    generalize numS r p n % denS p n = y at *
    generalize denS p n = D' at *
  · constructor
    · intro h3
      refine Nat.lt_of_mul_lt_mul_right (a := D) ?_
      have := Nat.mul_lt_mul_of_pos_right h3 hD'
      rw [Nat.mul_assoc, h2, ← Nat.mul_assoc, Nat.mul_comm D D'] at this
      exact this
    · intro h3
      refine Nat.lt_of_mul_lt_mul_right (a := D') ?_
      have := Nat.mul_lt_mul_of_pos_right h3 hD
      rw [Nat.mul_assoc, ← h2, ← Nat.mul_assoc, Nat.mul_comm D' D] at this
      exact this
  · constructor
    · intro h3
      refine Nat.eq_of_mul_eq_mul_right hD ?_
      rw [Nat.mul_assoc, ← h2, ← Nat.mul_assoc, h3, Nat.mul_comm D D']
    · intro h3
      refine Nat.eq_of_mul_eq_mul_right hD' ?_
      rw [Nat.mul_assoc, h2, ← Nat.mul_assoc, h3, Nat.mul_comm D D']

/-- n places reach n digits. -/
theorem quo_range {r : Nat} {p : Int} {n : Nat} (h0 : 0 < r) (hp : Place r p) (hn : 1 ≤ n) : 1 ≤ numS r p n / denS p n ∧ numS r p n / denS p n < 10 ^ n := by
  have hD := denS_pos p n
  constructor
  · rw [Nat.one_le_div_iff hD]
    have h := hp.2
    rw [lt10_false] at h
    unfold numS denS
    have hpp : 0 < 10 ^ (-(p - 1)).toNat := Nat.pow_pos (by omega)
    refine Nat.le_of_mul_le_mul_right (c := 10 ^ (-(p - 1)).toNat) ?_ hpp
    have h1 := Nat.mul_le_mul_right (10 ^ ((n : Int) - p).toNat) h
    have e2 : (p - (n : Int)).toNat + (-(p - 1)).toNat ≤ (p - 1).toNat + ((n : Int) - p).toNat := by omega
    have e1 : ONE 1074 * 10 ^ (p - (n : Int)).toNat * 10 ^ (-(p - 1)).toNat = ONE 1074 * 10 ^ ((p - (n : Int)).toNat + (-(p - 1)).toNat) := by rw [Nat.mul_assoc, ← Nat.pow_add]
    have e3 : ONE 1074 * 10 ^ (p - 1).toNat * 10 ^ ((n : Int) - p).toNat = ONE 1074 * 10 ^ ((p - 1).toNat + ((n : Int) - p).toNat) := by rw [Nat.mul_assoc, ← Nat.pow_add]
    rw [e1]
    rw [e3] at h1
    have h4 : ONE 1074 * 10 ^ ((p - (n : Int)).toNat + (-(p - 1)).toNat) ≤ ONE 1074 * 10 ^ ((p - 1).toNat + ((n : Int) - p).toNat) := Nat.mul_le_mul_left _ (Nat.pow_le_pow_right (by omega) e2)
    refine Nat.le_trans h4 (Nat.le_trans h1 (Nat.le_of_eq ?_))
    rw [Nat.mul_right_comm]
  · rw [Nat.div_lt_iff_lt_mul hD]
    have h := hp.1
    rw [lt10_iff] at h
    unfold numS denS
    refine Nat.lt_of_mul_lt_mul_right (a := 10 ^ (-p).toNat) ?_
    have h1 := Nat.mul_lt_mul_of_pos_right h (show 0 < 10 ^ ((n : Int) - p).toNat from Nat.pow_pos (by omega))
    have e1 : V r * 10 ^ ((n : Int) - p).toNat * 10 ^ (-p).toNat = V r * 10 ^ (-p).toNat * 10 ^ ((n : Int) - p).toNat := Nat.mul_right_comm ..
    rw [e1]
    refine Nat.lt_of_lt_of_le h1 (Nat.le_of_eq ?_)
    have e2 : 10 ^ n * (ONE 1074 * 10 ^ (p - (n : Int)).toNat) * 10 ^ (-p).toNat = ONE 1074 * 10 ^ (n + (p - (n : Int)).toNat + (-p).toNat) := by
      rw [Nat.pow_add, Nat.pow_add]; simp only [Nat.mul_assoc, Nat.mul_left_comm, Nat.mul_comm]
    rw [e2, Nat.mul_assoc, ← Nat.pow_add]
    congr 2; omega

end Go.Proofs.YteophaobcebppaaGreatDoor.dg
