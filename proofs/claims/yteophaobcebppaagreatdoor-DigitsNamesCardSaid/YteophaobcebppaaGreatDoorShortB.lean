/- Plain: numerals and their readings; a number's place; the parts of a number tell its shortest digits. Conditions: none beyond what each says. -/
import Derived.Test.YteophaobcebppaaGreatDoorShort
import Derived.Lib.ItoaNum
namespace Go.Proofs.YteophaobcebppaaGreatDoor.dg
open Ieee
set_option linter.unusedVariables false

theorem u8_digit {k : Nat} (h : k < 10) : (UInt8.ofNat (48 + k)).toNat = 48 + k := by
  rw [UInt8.toNat_ofNat']; omega

theorem dec_all (u : Nat) : AllD (Lib.decDigits u) := by
  induction u using Nat.strongRecOn with
  | _ u ih =>
    rw [Lib.decDigits]
    split
    · rename_i h
      intro c hc
      rw [List.mem_singleton] at hc
      rw [hc, u8_digit h]; omega
    · rename_i h
      refine AllD.append (ih (u / 10) (by omega)) ?_
      intro c hc
      rw [List.mem_singleton] at hc
      rw [hc, u8_digit (by omega)]; omega

theorem dec_val (u : Nat) : dval (Lib.decDigits u) = u := by
  induction u using Nat.strongRecOn with
  | _ u ih =>
    rw [Lib.decDigits]
    split
    · rename_i h
      rw [dval_cons, dval_nil, u8_digit h]; simp
    · rename_i h
      rw [dval_append, ih (u / 10) (by omega), dval_cons, dval_nil, u8_digit (by omega)]
      simp; omega

theorem dec_head {u : Nat} (h : 0 < u) : ∀ c r, Lib.decDigits u = c :: r → c ≠ 48 := by
  induction u using Nat.strongRecOn with
  | _ u ih =>
    intro c r e
    rw [Lib.decDigits] at e
    split at e
    · rename_i h1
      cases e
      intro h2
      have := u8_digit h1
      rw [h2] at this
      have e48 : (48 : UInt8).toNat = 48 := rfl
      omega
    · rename_i h1
      have hne : Lib.decDigits (u / 10) ≠ [] := by
        intro e2
        have := Lib.decDigits_length (u / 10)
        rw [e2] at this
        have := Lib.nDigits_pos (u / 10)
        simp at *; omega
      cases h3 : Lib.decDigits (u / 10) with
      | nil => exact absurd h3 hne
      | cons a b =>
        rw [h3] at e
        cases e
        exact ih (u / 10) (by omega) (by omega) _ _ h3

theorem dec_ne (u : Nat) : Lib.decDigits u ≠ [] := by
  intro e
  have := Lib.decDigits_length u
  rw [e] at this
  have := Lib.nDigits_pos u
  simp at *; omega

theorem nDigits_le {u k : Nat} (hk : 1 ≤ k) (h : u < 10 ^ k) : Lib.nDigits u ≤ k := by
  induction k generalizing u with
  | zero => omega
  | succ k ih =>
    by_cases h1 : u < 10
    · rw [Lib.nDigits_small h1]; omega
    · rw [Lib.nDigits_big h1]
      have h2 : u / 10 < 10 ^ k := by rw [Nat.pow_succ] at h; omega
      have hk0 : k ≠ 0 := by
        intro e; subst e; simp at h; omega
      have := ih (by omega) h2
      omega

theorem trimL_fix {l : List UInt8} (h : ∀ c r, l = c :: r → c ≠ 48) : Lib.trimLeftB l 48 = l := by
  cases l with
  | nil => rfl
  | cons a b =>
    have := h a b rfl
    unfold Lib.trimLeftB
    rw [List.dropWhile_cons_of_neg]
    simpa using this

theorem trimR_fix {l : List UInt8} (h : ∀ c r, l = r ++ [c] → c ≠ 48) : Lib.trimRightB l 48 = l := by
  unfold Lib.trimRightB
  cases hr : l.reverse with
  | nil => rw [List.reverse_eq_nil_iff.1 hr]; rfl
  | cons a b =>
    have e : l = b.reverse ++ [a] := by
      have := congrArg List.reverse hr
      simpa using this
    have := h a b.reverse e
    rw [List.dropWhile_cons_of_neg (by simpa using this), ← hr, List.reverse_reverse]

/-- a numeral without its noughts behind: what it is. -/
structure Trim (d : Nat) (s : List UInt8) (z : Nat) : Prop where
  split : Lib.decDigits d = s ++ List.replicate z 48
  ne : s ≠ []
  all : AllD s
  head : ∀ c r, s = c :: r → c ≠ 48
  last : ∀ c r, s = r ++ [c] → c ≠ 48
  val : d = dval s * 10 ^ z
  len : s.length + z = (Lib.decDigits d).length

theorem trim_dec {d : Nat} (h : 0 < d) : ∃ z, Trim d (Lib.trimRightB (Lib.decDigits d) 48) z := by
  obtain ⟨z, hz⟩ := right_split (Lib.decDigits d)
  have hne := right_nil (dec_ne d) (dec_head h)
  refine ⟨z, hz, hne, (dec_all d).right, ?_, fun c r e => right_last e, ?_, ?_⟩
  · intro c r e
    refine dec_head h c (r ++ List.replicate z 48) ?_
    rw [hz, e]; rfl
  · have := dec_val d
    rw [hz, dval_append, dval_zeros, List.length_replicate] at this
    omega
  · have := congrArg List.length hz
    rw [List.length_append, List.length_replicate] at this
    exact this.symm

theorem decv_shift (s z : Nat) (k : Int) : decv (s * 10 ^ z) k = decv s (k + z) := by
  rw [decv_one, decv_one]
  refine rd_congr (Nat.pow_pos (by omega)) (Nat.pow_pos (by omega)) ?_
  have e : z + k.toNat + (-(k + (z : Int))).toNat = (k + (z : Int)).toNat + (-k).toNat := by omega
  have e1 : s * 10 ^ z * 10 ^ k.toNat * ONE 1074 * 10 ^ (-(k + (z : Int))).toNat = s * ONE 1074 * 10 ^ (z + k.toNat + (-(k + (z : Int))).toNat) := by
    rw [Nat.pow_add, Nat.pow_add]; simp only [Nat.mul_assoc, Nat.mul_left_comm, Nat.mul_comm]
  have e2 : s * 10 ^ (k + (z : Int)).toNat * ONE 1074 * 10 ^ (-k).toNat = s * ONE 1074 * 10 ^ ((k + (z : Int)).toNat + (-k).toNat) := by
    rw [Nat.pow_add]; simp only [Nat.mul_assoc, Nat.mul_left_comm, Nat.mul_comm]
  rw [e1, e2, e]

/-- the reading of a numeral without its noughts behind, at its point. -/
theorem readP_trim {d : Nat} {s : List UInt8} {z : Nat} (ht : Trim d s z) (k : Int) (hl : s.length ≤ 800) (h0 : -400 ≤ k + (Lib.decDigits d).length) (h1 : k + (Lib.decDigits d).length ≤ 400) : readP s (k + (Lib.decDigits d).length) = decv d k := by
  have e1 := trimL_fix ht.head
  have e2 := trimR_fix ht.last
  have hlen := ht.len
  have hlI : (((Lib.decDigits d).length : Nat) : Int) = s.length + z := by omega
  unfold readP
  simp only [e1, e2]
  have e3 : decv d k = decv (dval s) (k + z) := by rw [← decv_shift, ← ht.val]
  rw [if_neg (by intro h; rcases h with h | h; exact ht.ne h; omega), if_neg (by omega), if_neg (by omega), if_neg (by omega), e3]
  have e4 : k + ((Lib.decDigits d).length : Int) - ((s.length : Int) - (s.length : Int)) - (s.length : Int) = k + (z : Int) := by omega
  rw [e4]

/-! ### a number's place -/

theorem big_low : 2 ^ 1074 < 10 ^ 330 := by decide +kernel
theorem big_high : 2 ^ 52 * 2 ^ 2046 < 2 ^ 1074 * 10 ^ 310 := by decide +kernel

theorem place_range {r : Nat} {p : Int} (h0 : 0 < r) (hI : r < INF) (hp : Place r p) : -330 ≤ p ∧ p ≤ 311 := by
  obtain ⟨K, hK⟩ : ∃ K : Nat, K = 330 := ⟨_, rfl⟩
  have hone : ONE 1074 < 10 ^ K := by rw [hK]; unfold ONE; exact big_low
  obtain ⟨L, hL⟩ : ∃ L : Nat, L = 310 := ⟨_, rfl⟩
  have htop : V r < ONE 1074 * 10 ^ L := by
    have h1 := V_lt hI
    have h2 : V INF < ONE 1074 * 10 ^ L := by rw [V_INF, hL]; unfold ONE TOP; exact big_high
    exact Nat.lt_trans h1 h2
  have hV := V_pos h0
  constructor
  · rcases Int.lt_or_le p (-330) with h | h
    · exfalso
      have h1 := lt10_up (show p ≤ -330 by omega) hp.1
      rw [lt10_iff] at h1
      have e1 : (-(-330 : Int)).toNat = K := by omega
      have e2 : (-330 : Int).toNat = 0 := rfl
      rw [e1, e2, Nat.pow_zero, Nat.mul_one] at h1
      have h3 : 1 * 10 ^ K ≤ V r * 10 ^ K := Nat.mul_le_mul_right _ hV
      rw [Nat.one_mul] at h3
      exact absurd (Nat.lt_of_le_of_lt h3 h1) (Nat.lt_asymm hone)
    · exact h
  · rcases Int.lt_or_le 311 p with h | h
    · exfalso
      have h1 : lt10 (V r) (ONE 1074) 310 = true := by
        rw [lt10_iff]
        have e1 : (-(310 : Int)).toNat = 0 := rfl
        have e2 : (310 : Int).toNat = L := by omega
        rw [e1, e2, Nat.pow_zero, Nat.mul_one]; exact htop
      have := lt10_up (show (310 : Int) ≤ p - 1 by omega) h1
      rw [hp.2] at this; cases this
    · exact h

/-! ### the same, by a number's parts -/

theorem lt10_parts {r A B : Nat} (h : Parts r A B) (n : Int) : lt10 A B n = lt10 (V r) (ONE 1074) n := by
  have hB := h.pos
  have hO := ONE_pos 1074
  have he := h.eq
  have key : (A * 10 ^ (-n).toNat < B * 10 ^ n.toNat) ↔ (V r * 10 ^ (-n).toNat < ONE 1074 * 10 ^ n.toNat) := by
    constructor
    · intro h1
      refine Nat.lt_of_mul_lt_mul_right (a := B) ?_
      have := Nat.mul_lt_mul_of_pos_right h1 hO
      rw [Nat.mul_right_comm, he, Nat.mul_right_comm A, ] at *
      rw [Nat.mul_right_comm (ONE 1074), Nat.mul_comm (ONE 1074) B, Nat.mul_right_comm B (ONE 1074)]
      exact this
    · intro h1
      refine Nat.lt_of_mul_lt_mul_right (a := ONE 1074) ?_
      have := Nat.mul_lt_mul_of_pos_right h1 hB
      rw [Nat.mul_right_comm, he, Nat.mul_right_comm (ONE 1074), Nat.mul_comm (ONE 1074) B, Nat.mul_right_comm B (ONE 1074)] at this
      rw [Nat.mul_right_comm A]
      exact this
  unfold lt10
  exact decide_eq_decide.2 key

theorem frac_same {N D N' D' : Nat} (hD : 0 < D) (hD' : 0 < D') (h : N * D' = N' * D) : N / D = N' / D' ∧ (N % D) * D' = (N' % D') * D := by
  have h1 : N / D = N' / D' := by
    have a := Nat.mul_div_mul_right N D hD'
    have b := Nat.mul_div_mul_right N' D' hD
    rw [← a, h, Nat.mul_comm D D', b]
  refine ⟨h1, ?_⟩
  have a := Nat.div_add_mod N D
  have b := Nat.div_add_mod N' D'
  have c : (D * (N / D) + N % D) * D' = (D' * (N' / D') + N' % D') * D := by rw [a, b, h]
  rw [Nat.add_mul, Nat.add_mul, h1] at c
  have e : D * (N' / D') * D' = D' * (N' / D') * D := by simp only [Nat.mul_left_comm, Nat.mul_comm]
  omega

/-- the digits that n places reach, of a number in its parts. -/
theorem pick_parts {r A B : Nat} (h : Parts r A B) (p : Int) (n : Nat) :
    (A * 10 ^ ((n : Int) - p).toNat) / (B * 10 ^ (p - (n : Int)).toNat) = numS r p n / denS p n ∧
    (2 * ((A * 10 ^ ((n : Int) - p).toNat) % (B * 10 ^ (p - (n : Int)).toNat)) < B * 10 ^ (p - (n : Int)).toNat ↔ 2 * (numS r p n % denS p n) < denS p n) ∧
    (2 * ((A * 10 ^ ((n : Int) - p).toNat) % (B * 10 ^ (p - (n : Int)).toNat)) = B * 10 ^ (p - (n : Int)).toNat ↔ 2 * (numS r p n % denS p n) = denS p n) := by
  have hD : 0 < B * 10 ^ (p - (n : Int)).toNat := Nat.mul_pos h.pos (Nat.pow_pos (by omega))
  have hD' := denS_pos p n
  have he : A * 10 ^ ((n : Int) - p).toNat * denS p n = numS r p n * (B * 10 ^ (p - (n : Int)).toNat) := by
    unfold numS denS
    have := h.eq
    have e1 : A * 10 ^ ((n : Int) - p).toNat * (ONE 1074 * 10 ^ (p - (n : Int)).toNat) = A * ONE 1074 * (10 ^ ((n : Int) - p).toNat * 10 ^ (p - (n : Int)).toNat) := by
      simp only [Nat.mul_assoc, Nat.mul_left_comm, Nat.mul_comm]
    have e2 : V r * 10 ^ ((n : Int) - p).toNat * (B * 10 ^ (p - (n : Int)).toNat) = V r * B * (10 ^ ((n : Int) - p).toNat * 10 ^ (p - (n : Int)).toNat) := by
      simp only [Nat.mul_assoc, Nat.mul_left_comm, Nat.mul_comm]
    rw [e1, e2, this]
  obtain ⟨h1, h2⟩ := frac_same hD hD' he
  refine ⟨h1, ?_, ?_⟩
  all_goals
    generalize (A * 10 ^ ((n : Int) - p).toNat) % (B * 10 ^ (p - (n : Int)).toNat) = x at *
    generalize B * 10 ^ (p - (n : Int)).toNat = D at *
    generalize numS r p n % denS p n = y at *
    generalize denS p n = D' at *
  · constructor
    · intro h3
      refine Nat.lt_of_mul_lt_mul_right (a := D) ?_
      have := Nat.mul_lt_mul_of_pos_right h3 hD'
      rw [Nat.mul_assoc, h2, ← Nat.mul_assoc, Nat.mul_comm D D'] at this
      exact this
    · intro h3
      refine Nat.lt_of_mul_lt_mul_right (a := D') ?_
      have := Nat.mul_lt_mul_of_pos_right h3 hD
      rw [Nat.mul_assoc, ← h2, ← Nat.mul_assoc, Nat.mul_comm D' D] at this
      exact this
  · constructor
    · intro h3
      refine Nat.eq_of_mul_eq_mul_right hD ?_
      rw [Nat.mul_assoc, ← h2, ← Nat.mul_assoc, h3, Nat.mul_comm D D']
    · intro h3
      refine Nat.eq_of_mul_eq_mul_right hD' ?_
      rw [Nat.mul_assoc, h2, ← Nat.mul_assoc, h3, Nat.mul_comm D D']

/-- n places reach n digits. -/
theorem quo_range {r : Nat} {p : Int} {n : Nat} (h0 : 0 < r) (hp : Place r p) (hn : 1 ≤ n) : 1 ≤ numS r p n / denS p n ∧ numS r p n / denS p n < 10 ^ n := by
  have hD := denS_pos p n
  constructor
  · rw [Nat.one_le_div_iff hD]
    have h := hp.2
    rw [lt10_false] at h
    unfold numS denS
    have hpp : 0 < 10 ^ (-(p - 1)).toNat := Nat.pow_pos (by omega)
    refine Nat.le_of_mul_le_mul_right (c := 10 ^ (-(p - 1)).toNat) ?_ hpp
    have h1 := Nat.mul_le_mul_right (10 ^ ((n : Int) - p).toNat) h
    have e2 : (p - (n : Int)).toNat + (-(p - 1)).toNat ≤ (p - 1).toNat + ((n : Int) - p).toNat := by omega
    have e1 : ONE 1074 * 10 ^ (p - (n : Int)).toNat * 10 ^ (-(p - 1)).toNat = ONE 1074 * 10 ^ ((p - (n : Int)).toNat + (-(p - 1)).toNat) := by rw [Nat.mul_assoc, ← Nat.pow_add]
    have e3 : ONE 1074 * 10 ^ (p - 1).toNat * 10 ^ ((n : Int) - p).toNat = ONE 1074 * 10 ^ ((p - 1).toNat + ((n : Int) - p).toNat) := by rw [Nat.mul_assoc, ← Nat.pow_add]
    rw [e1]
    rw [e3] at h1
    have h4 : ONE 1074 * 10 ^ ((p - (n : Int)).toNat + (-(p - 1)).toNat) ≤ ONE 1074 * 10 ^ ((p - 1).toNat + ((n : Int) - p).toNat) := Nat.mul_le_mul_left _ (Nat.pow_le_pow_right (by omega) e2)
    refine Nat.le_trans h4 (Nat.le_trans h1 (Nat.le_of_eq ?_))
    rw [Nat.mul_right_comm]
  · rw [Nat.div_lt_iff_lt_mul hD]
    have h := hp.1
    rw [lt10_iff] at h
    unfold numS denS
    refine Nat.lt_of_mul_lt_mul_right (a := 10 ^ (-p).toNat) ?_
    have h1 := Nat.mul_lt_mul_of_pos_right h (show 0 < 10 ^ ((n : Int) - p).toNat from Nat.pow_pos (by omega))
    have e1 : V r * 10 ^ ((n : Int) - p).toNat * 10 ^ (-p).toNat = V r * 10 ^ (-p).toNat * 10 ^ ((n : Int) - p).toNat := Nat.mul_right_comm ..
    rw [e1]
    refine Nat.lt_of_lt_of_le h1 (Nat.le_of_eq ?_)
    have e2 : 10 ^ n * (ONE 1074 * 10 ^ (p - (n : Int)).toNat) * 10 ^ (-p).toNat = ONE 1074 * 10 ^ (n + (p - (n : Int)).toNat + (-p).toNat) := by
      rw [Nat.pow_add, Nat.pow_add]; simp only [Nat.mul_assoc, Nat.mul_left_comm, Nat.mul_comm]
    rw [e2, Nat.mul_assoc, ← Nat.pow_add]
    congr 2; omega

end Go.Proofs.YteophaobcebppaaGreatDoor.dg
