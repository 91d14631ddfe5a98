/- Plain: reading keeps the order: of two rows of digits of one length the lesser one is not read as more; noughts ahead and behind change nothing. Conditions: none beyond what each says. -/
import Derived.Test.YteophaobcebppaaGreatDoorPrint
set_option linter.unusedSimpArgs false
namespace Go.Proofs.YteophaobcebppaaGreatDoor.dg
open Ieee
set_option linter.unusedVariables false

/-- powers of ten, not to be reckoned. -/
def PW (k : Nat) : Nat := 10 ^ k
attribute [irreducible] PW
theorem PW_eq (k : Nat) : PW k = 10 ^ k := by unfold PW; rfl
theorem PW_add (a b : Nat) : PW (a + b) = PW a * PW b := by unfold PW; exact Nat.pow_add ..
theorem PW_pos (k : Nat) : 0 < PW k := by unfold PW; exact Nat.pow_pos (by omega)
theorem PW_sum {c a b : Nat} (h : c = a + b) : PW c = PW a * PW b := by rw [h, PW_add]
theorem PW_one : PW 1 = 10 := by unfold PW; rfl
theorem PW_succ (k : Nat) : PW (k + 1) = PW k * 10 := by rw [PW_add, PW_one]

/-- a row of M digits worth x, cut to 801 places. -/
def TT (x M : Nat) : Nat := if M ≤ 800 then x * PW (801 - M) else x / PW (M - 800) * 10 + (if x % PW (M - 800) = 0 then 0 else 1)

theorem TT_mono {x y M : Nat} (h : x ≤ y) : TT x M ≤ TT y M := by
  unfold TT
  split
  · exact Nat.mul_le_mul_right _ h
  · have hp := PW_pos (M - 800)
    generalize PW (M - 800) = K at *
    have h1 : x / K ≤ y / K := Nat.div_le_div_right h
    by_cases h2 : x / K = y / K
    · have a := Nat.div_add_mod x K
      have b := Nat.div_add_mod y K
      rw [h2] at a
      have : x % K ≤ y % K := by omega
      rw [h2]
      split <;> split <;> omega
    · split <;> split <;> omega

theorem TT_lt {x M : Nat} (h : x < 10 ^ M) : TT x M < PW 801 := by
  rw [← PW_eq] at h
  unfold TT
  split
  · rename_i hM
    have : PW 801 = PW M * PW (801 - M) := PW_sum (by omega)
    rw [this]
    exact Nat.mul_lt_mul_of_pos_right h (PW_pos _)
  · rename_i hM
    have e : PW M = PW (M - 800) * PW 800 := PW_sum (by omega)
    have hp := PW_pos (M - 800)
    have h1 : x / PW (M - 800) < PW 800 := by
      rw [Nat.div_lt_iff_lt_mul hp, Nat.mul_comm, ← e]; exact h
    have e2 : PW 801 = PW 800 * 10 := PW_succ 800
    rw [e2]
    generalize PW 800 = Q at *
    split <;> omega

theorem TT_ge {x M : Nat} (hM : 1 ≤ M) (h : 10 ^ (M - 1) ≤ x) : PW 800 ≤ TT x M := by
  rw [← PW_eq] at h
  unfold TT
  split
  · rename_i hM2
    have : PW 800 = PW (M - 1) * PW (801 - M) := PW_sum (by omega)
    rw [this]
    exact Nat.mul_le_mul_right _ h
  · rename_i hM2
    have hp := PW_pos (M - 800)
    have e : PW (M - 1) = PW 799 * PW (M - 800) := PW_sum (by omega)
    have h1 : PW 799 ≤ x / PW (M - 800) := by
      rw [Nat.le_div_iff_mul_le hp, ← e]; exact h
    have e2 : PW 800 = PW 799 * 10 := PW_succ 799
    rw [e2]
    generalize PW 799 = Q at *
    omega

theorem dval_last {s : List UInt8} (h : AllD s) (hne : s ≠ []) (hl : ∀ c r, s = r ++ [c] → c ≠ 48) : 0 < dval s := by
  obtain ⟨r, c, rfl⟩ : ∃ r c, s = r ++ [c] := ⟨s.dropLast, s.getLast hne, (List.dropLast_concat_getLast hne).symm⟩
  have hc := hl c r rfl
  have h1 := h c (by simp)
  have h2 : c.toNat ≠ 48 := fun e => hc (UInt8.toNat_inj.1 (by rw [e]; rfl))
  rw [dval_append, dval_cons, dval_nil]
  simp
  omega

/-- the row that is read, of a row with noughts behind. -/
theorem cut_TT {r2 : List UInt8} {z : Nat} (h : AllD r2) (hne : r2 ≠ []) (hl : ∀ c r, r2 = r ++ [c] → c ≠ 48) (r3 : List UInt8) (h3 : r3 = if 800 < r2.length then r2.take 800 ++ [49] else r2) :
    TT (dval (r2 ++ List.replicate z 48)) (r2.length + z) = dval r3 * PW (801 - r3.length) ∧ r3.length ≤ 801 := by
  have hx : dval (r2 ++ List.replicate z 48) = dval r2 * 10 ^ z := by rw [dval_append, dval_zeros, List.length_replicate, Nat.add_zero]
  rw [hx]
  by_cases hb : 800 < r2.length
  · rw [if_pos hb] at h3
    have hl3 : r3.length = 801 := by rw [h3]; simp; omega
    refine ⟨?_, by omega⟩
    rw [hl3, Nat.sub_self, PW_eq, Nat.pow_zero, Nat.mul_one]
    have hd3 : dval r3 = dval (r2.take 800) * 10 + 1 := by
      rw [h3, dval_append, dval_cons, dval_nil]; rfl
    have hsplit : dval r2 = dval (r2.take 800) * 10 ^ (r2.length - 800) + dval (r2.drop 800) := by
      have := dval_append (r2.take 800) (r2.drop 800)
      rw [List.take_append_drop, List.length_drop] at this
      exact this
    have hlt : dval (r2.drop 800) < 10 ^ (r2.length - 800) := by
      have := dval_lt (h.drop 800)
      rwa [List.length_drop] at this
    have hpos : 0 < dval (r2.drop 800) := by
      refine dval_last (h.drop 800) (by intro e; have := congrArg List.length e; rw [List.length_drop] at this; simp at this; omega) (fun c r e => ?_)
      refine hl c (r2.take 800 ++ r) ?_
      rw [List.append_assoc, ← e, List.take_append_drop]
    unfold TT
    rw [if_neg (by omega), show r2.length + z - 800 = r2.length - 800 + z by omega, PW_add, PW_eq, PW_eq, hsplit, hd3]
    generalize dval (r2.take 800) = t at *
    generalize dval (r2.drop 800) = u at *
    have hK : 0 < 10 ^ (r2.length - 800) := Nat.pow_pos (by omega)
    have hZ : 0 < 10 ^ z := Nat.pow_pos (by omega)
    generalize 10 ^ (r2.length - 800) = K at *
    generalize 10 ^ z = Z at *
    have e1 : (t * K + u) * Z / (K * Z) = t := by
      rw [Nat.mul_div_mul_right _ _ hZ, Nat.mul_comm t K, Nat.mul_add_div hK, Nat.div_eq_of_lt hlt, Nat.add_zero]
    have e2 : (t * K + u) * Z % (K * Z) ≠ 0 := by
      rw [Nat.mul_mod_mul_right, Nat.mul_comm t K, Nat.mul_add_mod, Nat.mod_eq_of_lt hlt]
      exact Nat.mul_ne_zero (by omega) (by omega)
    rw [e1, if_neg e2]
  · rw [if_neg hb] at h3
    subst h3
    refine ⟨?_, by omega⟩
    unfold TT
    split
    · rename_i hM
      have e : PW (801 - r3.length) = PW z * PW (801 - (r3.length + z)) := PW_sum (by omega)
      rw [← PW_eq, Nat.mul_assoc, ← e]
    · rename_i hM
      have e : PW z = PW (z - (r3.length + z - 800)) * PW (r3.length + z - 800) := PW_sum (by omega)
      have hK := PW_pos (r3.length + z - 800)
      have e3 : 801 - r3.length = z - (r3.length + z - 800) + 1 := by omega
      rw [← PW_eq, e, ← Nat.mul_assoc, Nat.mul_div_cancel _ hK, Nat.mul_mod_left, if_pos rfl, Nat.add_zero, Nat.mul_assoc, ← PW_succ, e3]

theorem readP_TT {l : List UInt8} (h : AllD l) {p : Int} (hne : Lib.trimLeftB l 48 ≠ []) (hp : ¬ p < -1099511627776) :
    readP l p = if 400 < p - (l.length - (Lib.trimLeftB l 48).length) then INF else if p - (l.length - (Lib.trimLeftB l 48).length) < -400 then 0 else decv (TT (dval (Lib.trimLeftB l 48)) (Lib.trimLeftB l 48).length) (p - (l.length - (Lib.trimLeftB l 48).length) - 801) := by
  unfold readP
  simp only
  have hal := h.left
  have hhd : ∀ c r, Lib.trimLeftB l 48 = c :: r → c ≠ 48 := fun c r e => left_head e
  generalize Lib.trimLeftB l 48 = r at *
  rw [if_neg (by intro h; rcases h with h | h; exact hne h; exact hp h)]
  split
  · rfl
  · split
    · rfl
    · obtain ⟨z, hz⟩ := right_split r
      have hne2 := right_nil hne hhd
      obtain ⟨k1, k2⟩ := cut_TT (z := z) hal.right hne2 (fun c r e => right_last e) _ rfl
      rw [← hz] at k1
      have hlr : r.length = (Lib.trimRightB r 48).length + z := by
        have := congrArg List.length hz
        rwa [List.length_append, List.length_replicate] at this
      rw [← hlr] at k1
      rw [k1, PW_eq, decv_shift]
      congr 1
      omega

theorem decv_mono {x y : Nat} (h : x ≤ y) (k : Int) : decv x k ≤ decv y k := by
  rw [decv_one, decv_one]
  exact rd_mono (Nat.pow_pos (by omega)) (Nat.pow_pos (by omega)) (Nat.mul_le_mul_right _ (Nat.mul_le_mul_right _ (Nat.mul_le_mul_right _ h)))

theorem decv_ten {i j : Int} (h : i ≤ j) : decv 1 i ≤ decv 1 j := by
  obtain ⟨m, rfl⟩ : ∃ m : Nat, j = i + m := ⟨(j - i).toNat, by omega⟩
  rw [← decv_shift, Nat.one_mul]
  exact decv_mono (Nat.pow_pos (by omega)) i

theorem decv_pow (m : Nat) (k : Int) : decv (PW m) k = decv 1 (k + m) := by
  rw [← decv_shift, Nat.one_mul, PW_eq]

theorem trimL_val (l : List UInt8) : dval (Lib.trimLeftB l 48) = dval l := by
  obtain ⟨z, hz⟩ := left_split l
  have := congrArg dval hz
  rw [dval_append, dval_zeros, Nat.zero_mul, Nat.zero_add] at this
  exact this.symm

theorem readP_mono {a b : List UInt8} (ha : AllD a) (hb : AllD b) (hlen : a.length = b.length) (h : dval a ≤ dval b) (p : Int) : readP a p ≤ readP b p := by
  have hva := trimL_val a
  have hvb := trimL_val b
  by_cases hp : p < -1099511627776
  · have e : readP a p = 0 := by unfold readP; simp only; rw [if_pos (Or.inr hp)]
    omega
  by_cases hna : Lib.trimLeftB a 48 = []
  · have e : readP a p = 0 := by unfold readP; simp only; rw [if_pos (Or.inl hna)]
    omega
  have hga := dval_pos ha.left (fun c r e => left_head e) hna
  have hla := dval_lt ha.left
  have hlb := dval_lt hb.left
  have hma := left_len a
  have hmb := left_len b
  have hnb : Lib.trimLeftB b 48 ≠ [] := by
    intro e
    rw [e, dval_nil] at hvb
    have : 0 < 10 ^ ((Lib.trimLeftB a 48).length - 1) := Nat.pow_pos (by omega)
    omega
  have hgb := dval_pos hb.left (fun c r e => left_head e) hnb
  rw [readP_TT ha hna hp, readP_TT hb hnb hp]
  have hza : 1 ≤ (Lib.trimLeftB a 48).length := by
    rcases Nat.eq_zero_or_pos (Lib.trimLeftB a 48).length with h | h
    · exact absurd (List.length_eq_zero_iff.1 h) hna
    · exact h
  have hzb : 1 ≤ (Lib.trimLeftB b 48).length := by
    rcases Nat.eq_zero_or_pos (Lib.trimLeftB b 48).length with h | h
    · exact absurd (List.length_eq_zero_iff.1 h) hnb
    · exact h
  generalize Lib.trimLeftB a 48 = ra at *
  generalize Lib.trimLeftB b 48 = rb at *
  have hM : ra.length ≤ rb.length := by
    rcases Nat.lt_or_ge rb.length ra.length with h1 | h1
    · have h2 : 10 ^ rb.length ≤ 10 ^ (ra.length - 1) := Nat.pow_le_pow_right (by omega) (by omega)
      omega
    · exact h1
  have hTa := TT_lt hla
  have hTb := TT_ge hzb hgb
  have hlI : ((a.length : Nat) : Int) = b.length := by omega
  by_cases h1 : 400 < p - ((b.length : Int) - rb.length)
  · rw [if_pos h1]
    split
    · exact Nat.le_refl _
    · split
      · exact Nat.zero_le _
      · exact rd_le _ _ (Nat.pow_pos (by omega))
  · rw [if_neg h1, if_neg (by omega)]
    by_cases h2 : p - ((a.length : Int) - ra.length) < -400
    · rw [if_pos h2]; exact Nat.zero_le _
    · rw [if_neg h2, if_neg (by omega)]
      by_cases h3 : ra.length = rb.length
      · rw [h3, hlI]
        refine decv_mono (TT_mono (by omega)) _
      · refine Nat.le_trans (decv_mono (Nat.le_of_lt hTa) _) (Nat.le_trans ?_ (decv_mono hTb _))
        rw [decv_pow, decv_pow]
        exact decv_ten (by omega)

end Go.Proofs.YteophaobcebppaaGreatDoor.dg
