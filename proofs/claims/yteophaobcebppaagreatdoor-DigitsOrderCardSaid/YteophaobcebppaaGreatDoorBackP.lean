/- Plain: what is printed is read again; no fewer digits are read as a number. Conditions: none beyond what each says. -/
import Derived.Test.YteophaobcebppaaGreatDoorOrdP
import Derived.Test.YteophaobcebppaaGreatDoorTxt
set_option linter.unusedSimpArgs false
set_option linter.unusedVariables false
namespace Go.Proofs.YteophaobcebppaaGreatDoor.dg
open Ieee

theorem trimL_app (n : Nat) (l : List UInt8) : Lib.trimLeftB (List.replicate n 48 ++ l) 48 = Lib.trimLeftB l 48 := by
  induction n with
  | zero => rfl
  | succ n ih =>
    rw [List.replicate_succ, List.cons_append]
    unfold Lib.trimLeftB at ih ⊢
    rw [List.dropWhile_cons_of_pos (by simp)]
    exact ih

theorem trimL_len (l : List UInt8) : (Lib.trimLeftB l 48).length ≤ l.length := left_len l

/-- noughts ahead change nothing. -/
theorem readP_ahead (l : List UInt8) (n : Nat) (p : Int) (hl : l.length ≤ 281474976710656) (hn : n ≤ 1000000) : readP (List.replicate n 48 ++ l) (p + n) = readP l p := by
  unfold readP
  simp only [trimL_app]
  have hle := left_len l
  generalize Lib.trimLeftB l 48 = r at *
  have e : p + (n : Int) - (((List.replicate n 48 ++ l).length : Int) - r.length) = p - ((l.length : Int) - r.length) := by
    rw [List.length_append, List.length_replicate]; omega
  rw [e]
  by_cases h0 : r = []
  · rw [if_pos (Or.inl h0), if_pos (Or.inl h0)]
  · by_cases hp : p < -1099511627776
    · rw [if_pos (Or.inr hp)]
      by_cases hp2 : p + (n : Int) < -1099511627776
      · rw [if_pos (Or.inr hp2)]
      · rw [if_neg (by rintro (h | h); exact h0 h; exact hp2 h), if_neg (by omega), if_pos (by omega)]
    · have k1 : ¬ (r = [] ∨ p + (n : Int) < -1099511627776) := by rintro (h | h); exact h0 h; omega
      have k2 : ¬ (r = [] ∨ p < -1099511627776) := by rintro (h | h); exact h0 h; exact hp h
      rw [if_neg k1, if_neg k2]

theorem trimR_app (l : List UInt8) (n : Nat) : Lib.trimRightB (l ++ List.replicate n 48) 48 = Lib.trimRightB l 48 := by
  unfold Lib.trimRightB
  rw [List.reverse_append, List.reverse_replicate]
  have := trimL_app n l.reverse
  unfold Lib.trimLeftB at this
  rw [this]

theorem trimL_cons {l : List UInt8} (n : Nat) (h : Lib.trimLeftB l 48 ≠ []) : Lib.trimLeftB (l ++ List.replicate n 48) 48 = Lib.trimLeftB l 48 ++ List.replicate n 48 := by
  induction l with
  | nil => exact absurd rfl h
  | cons c r ih =>
    unfold Lib.trimLeftB at ih h ⊢
    by_cases hc : c = 48
    · rw [List.cons_append, List.dropWhile_cons_of_pos (by simp [hc]), List.dropWhile_cons_of_pos (by simp [hc])]
      rw [List.dropWhile_cons_of_pos (by simp [hc])] at h
      exact ih h
    · rw [List.cons_append, List.dropWhile_cons_of_neg (by simp [hc]), List.dropWhile_cons_of_neg (by simp [hc])]; rfl
theorem trimL_zeros {l : List UInt8} (n : Nat) (h : Lib.trimLeftB l 48 = []) : Lib.trimLeftB (l ++ List.replicate n 48) 48 = [] := by
  obtain ⟨z, hz⟩ := left_split l
  rw [h, List.append_nil] at hz
  rw [hz, List.replicate_append_replicate]
  have := trimL_app (z + n) []
  rw [List.append_nil] at this
  rw [this]; rfl

/-- noughts behind change nothing. -/
theorem readP_behind (l : List UInt8) (n : Nat) (p : Int) : readP (l ++ List.replicate n 48) p = readP l p := by
  by_cases h : Lib.trimLeftB l 48 = []
  · unfold readP
    simp only
    rw [trimL_zeros n h, h, if_pos (Or.inl rfl), if_pos (Or.inl rfl)]
  · unfold readP
    simp only
    rw [trimL_cons n h, trimR_app]
    have hne : Lib.trimLeftB l 48 ++ List.replicate n 48 ≠ [] := by simp [h]
    have e : p - (((l ++ List.replicate n 48).length : Int) - (Lib.trimLeftB l 48 ++ List.replicate n 48).length) = p - ((l.length : Int) - (Lib.trimLeftB l 48).length) := by
      rw [List.length_append, List.length_append]; omega
    rw [e]
    by_cases hp : p < -1099511627776
    · rw [if_pos (Or.inr hp), if_pos (Or.inr hp)]
    · have k1 : ¬ (Lib.trimLeftB l 48 ++ List.replicate n 48 = [] ∨ p < -1099511627776) := by rintro (a | a); exact hne a; exact hp a
      have k2 : ¬ (Lib.trimLeftB l 48 = [] ∨ p < -1099511627776) := by rintro (a | a); exact h a; exact hp a
      rw [if_neg k1, if_neg k2]

/-- the reading of a short row. -/
theorem readP_val {l : List UInt8} (h : AllD l) (h0 : 0 < dval l) (hl : l.length ≤ 100) {p : Int} (hp0 : -300 ≤ p - l.length ∨ -290 ≤ p) (hp1 : p ≤ 400) (hp2 : -395 ≤ p - l.length) : readP l p = decv (dval l) (p - l.length) := by
  have hv := trimL_val l
  have hle := left_len l
  have hne : Lib.trimLeftB l 48 ≠ [] := by
    intro e; rw [e, dval_nil] at hv; omega
  rw [readP_TT h hne (by omega), hv]
  have h1 : 1 ≤ (Lib.trimLeftB l 48).length := by
    rcases Nat.eq_zero_or_pos (Lib.trimLeftB l 48).length with h | h
    · exact absurd (List.length_eq_zero_iff.1 h) hne
    · exact h
  generalize (Lib.trimLeftB l 48).length = M at *
  rw [if_neg (by omega), if_neg (by omega)]
  unfold TT
  rw [if_pos (by omega), PW_eq, decv_shift]
  congr 1
  omega

/-- the digits that fewer places reach. -/
theorem floor_less {r : Nat} {p : Int} {j n : Nat} (h : j ≤ n) : numS r p j / denS p j = numS r p n / denS p n / 10 ^ (n - j) := by
  rw [Nat.div_div_eq_div_mul]
  have hT : 0 < 10 ^ (n - j) := Nat.pow_pos (by omega)
  refine (frac_same (denS_pos p j) (Nat.mul_pos (denS_pos p n) hT) ?_).1
  unfold numS denS
  have e : ((j : Int) - p).toNat + ((p - (n : Int)).toNat + (n - j)) = ((n : Int) - p).toNat + (p - (j : Int)).toNat := by omega
  have e1 : V r * 10 ^ ((j : Int) - p).toNat * (ONE 1074 * 10 ^ (p - (n : Int)).toNat * 10 ^ (n - j)) = V r * ONE 1074 * 10 ^ (((j : Int) - p).toNat + ((p - (n : Int)).toNat + (n - j))) := by
    rw [Nat.pow_add, Nat.pow_add]; simp only [Nat.mul_assoc, Nat.mul_left_comm, Nat.mul_comm]
  have e2 : V r * 10 ^ ((n : Int) - p).toNat * (ONE 1074 * 10 ^ (p - (j : Int)).toNat) = V r * ONE 1074 * 10 ^ (((n : Int) - p).toNat + (p - (j : Int)).toNat) := by
    rw [Nat.pow_add]; simp only [Nat.mul_assoc, Nat.mul_left_comm, Nat.mul_comm]
  rw [e1, e2, e]

theorem pick_none {r n : Nat} {p : Int} (h : pick r p n = none) : decv (numS r p n / denS p n) (p - n) ≠ r ∧ decv (numS r p n / denS p n + 1) (p - n) ≠ r := by
  unfold pick at h
  simp only at h
  split at h
  · rename_i h1
    exact ⟨of_decide_eq_false h1.1, of_decide_eq_false h1.2⟩
  · split at h <;> cases h

theorem dec_pow (n : Nat) : Lib.decDigits (10 ^ n) = 49 :: List.replicate n 48 := by
  induction n with
  | zero => rw [Nat.pow_zero, Lib.decDigits_one (by omega)]; rfl
  | succ n ih =>
    have h1 : 0 < 10 ^ n := Nat.pow_pos (by omega)
    rw [Lib.decDigits, dif_neg (by rw [Nat.pow_succ]; omega)]
    have e1 : 10 ^ (n + 1) / 10 = 10 ^ n := by rw [Nat.pow_succ, Nat.mul_div_cancel _ (by omega)]
    have e2 : 10 ^ (n + 1) % 10 = 0 := by rw [Nat.pow_succ, Nat.mul_mod_left]
    rw [e1, e2, ih, List.replicate_succ']; rfl

theorem nDigits_ge {u k : Nat} (h : 10 ^ k ≤ u) : k + 1 ≤ Lib.nDigits u := by
  induction k generalizing u with
  | zero => exact Lib.nDigits_pos u
  | succ k ih =>
    have h1 : 0 < 10 ^ k := Nat.pow_pos (by omega)
    rw [Nat.pow_succ] at h
    rw [Lib.nDigits_big (by omega)]
    have := ih (u := u / 10) (by omega)
    omega

/-- a number's shortest digits, more than one: they are what is chosen of their count, and one place less reads none. -/
theorem short_more {r : Nat} {d : List UInt8} {p : Int} (h0 : 0 < r) (hI : r < INF) (h : IsShort r d p) (hd : 1 < d.length) :
    d.length ≤ 17 ∧ ∃ q, d = Lib.decDigits q ∧ dval d = q ∧ decv (q / 10) (p - (d.length - 1 : Nat)) ≠ r ∧ decv (q / 10 + 1) (p - (d.length - 1 : Nat)) ≠ r := by
  obtain ⟨pl, n, q, hp, hn1, hn17, hno, hpk, hdl, hat⟩ := h
  obtain ⟨hread, hor⟩ := pick_some hpk
  obtain ⟨hq1, hq2⟩ := quo_range (n := n) h0 hp hn1
  obtain ⟨f, hf⟩ : ∃ f, f = numS r pl n / denS pl n := ⟨_, rfl⟩
  rw [← hf] at hq1 hq2 hor
  have hge : 10 ^ (n - 1) ≤ f := by
    have h1 := (quo_range (n := 1) h0 hp (by omega)).1
    rw [floor_less (show 1 ≤ n by omega), ← hf] at h1
    have hT : 0 < 10 ^ (n - 1) := Nat.pow_pos (by omega)
    exact (Nat.one_le_div_iff hT).1 h1
  obtain ⟨z, hz⟩ := trim_dec (d := q) (by rcases hor with h | h <;> omega)
  have hnq : q ≠ 10 ^ n := by
    intro e
    have h1 : d = [49] := by
      have h2 : Lib.trimRightB (49 :: List.replicate n 48) 48 = Lib.trimRightB [49] 48 := trimR_app [49] n
      rw [hdl, e, dec_pow, h2]; rfl
    rw [h1] at hd; simp at hd
  have hqn : q < 10 ^ n := by rcases hor with h | h <;> omega
  have hqg : 10 ^ (n - 1) ≤ q := by rcases hor with h | h <;> omega
  have hlen : (Lib.decDigits q).length = n := by
    have a := nDigits_le (k := n) hn1 hqn
    have b := nDigits_ge hqg
    rw [Lib.decDigits_length]; omega
  have hzs := hz.len
  rw [← hdl] at hz hzs
  rw [hlen] at hzs
  have hz0 : z = 0 := by
    rcases Nat.eq_zero_or_pos z with h | h
    · exact h
    · exfalso
      have hj := pick_none (hno d.length (by omega) (by omega))
      rw [floor_less (show d.length ≤ n by omega), ← hf, show n - d.length = z by omega] at hj
      have hv := hz.val
      have e1 : decv q (pl - n) = decv (dval d) (pl - n + z) := by rw [← decv_shift, ← hv]
      rw [show pl - (n : Int) + (z : Int) = pl - (d.length : Int) by omega] at e1
      have hT : 0 < 10 ^ z := Nat.pow_pos (by omega)
      rcases hor with h1 | h1
      · rw [← h1] at hj
        have e5 : q / 10 ^ z = dval d := by rw [hv, Nat.mul_div_cancel _ hT]
        rw [e5] at hj
        exact hj.1 (by rw [← e1]; exact hread)
      · obtain ⟨m, hm⟩ : ∃ m, dval d = m + 1 := by
          rcases Nat.eq_zero_or_pos (dval d) with h | h
          · rw [h, Nat.zero_mul] at hv; omega
          · exact ⟨dval d - 1, by omega⟩
        have e2 : f / 10 ^ z = m := by
          rw [hm, Nat.succ_mul] at hv
          have e3 : f = 10 ^ z * m + (10 ^ z - 1) := by rw [Nat.mul_comm]; omega
          rw [e3, Nat.mul_add_div hT, Nat.div_eq_of_lt (by omega), Nat.add_zero]
        rw [e2, ← hm] at hj
        exact hj.2 (by rw [← e1]; exact hread)
  subst hz0
  have hdd : d = Lib.decDigits q := by
    have := hz.split
    simpa using this.symm
  have hdn : d.length = n := by omega
  have hdv : dval d = q := by rw [hdd, dec_val]
  refine ⟨by omega, q, hdd, hdv, ?_⟩
  have hj := pick_none (hno (n - 1) (by omega) (by omega))
  rw [floor_less (show n - 1 ≤ n by omega), ← hf, show n - (n - 1) = 1 by omega, Nat.pow_one] at hj
  have hpp : p = pl := by rw [hat, hlen]; omega
  have hf10 : f / 10 = q / 10 := by
    rcases hor with h1 | h1
    · rw [h1]
    · have hl : q % 10 ≠ 0 := by
        intro e
        have h3 : d = Lib.decDigits (q / 10) ++ [48] := by
          rw [hdd, Lib.decDigits, dif_neg (by
            intro h10
            have := Lib.decDigits_one (i := q) h10
            rw [hdd, this] at hd; simp at hd), e]; rfl
        exact hz.last 48 _ h3 rfl
      omega
  rw [hf10] at hj
  rw [hpp, hdn]
  exact hj

end Go.Proofs.YteophaobcebppaaGreatDoor.dg
