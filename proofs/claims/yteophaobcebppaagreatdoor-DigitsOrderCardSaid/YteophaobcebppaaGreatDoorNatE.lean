/- The walks of large.Len, Left and Right. Conditions: the lists are short enough to lie in memory. -/
import Derived.Test.YteophaobcebppaaGreatDoorNatD
import Derived.Lib.BitFns
set_option linter.unusedSimpArgs false
namespace Go.Proofs.YteophaobcebppaaGreatDoor.dg
open Go.RowKit
set_option linter.unusedVariables false

/-- how many bits a number has. -/
def bl (n : Nat) : Nat := if n = 0 then 0 else n.log2 + 1

theorem bl_bitLen {x : Nat} (h : x < B64) : Lib.bitLen x = bl x := by
  by_cases h0 : x = 0
  · subst h0; rfl
  · have h1 := Nat.log2_self_le h0
    have h2 : x < 2 ^ (x.log2 + 1) := Nat.lt_log2_self
    rw [Lib.bitLen_shift x.log2 x h1 (by rw [← B64_pow]; exact h)]
    have e : x / 2 ^ x.log2 = 1 := by
      refine Nat.div_eq_of_lt_le (by omega) ?_
      rw [Nat.pow_succ] at h2; omega
    rw [e]
    unfold bl
    rw [if_neg h0]; rfl

theorem bl_words {A : Nat} (h : A ≠ 0) : bl A = 64 * ((words A).length - 1) + bl (nth (words A) ((words A).length - 1)) := by
  have h1 := words_last h
  have hlen : (words A).length ≠ 0 := fun e => h (words_nil_iff.1 e)
  have h3 := val_take_succ (l := words A) (k := (words A).length - 1) (by omega)
  rw [show (words A).length - 1 + 1 = (words A).length from by omega, List.take_length, val_words] at h3
  have h4 := val_lt ((small_words A).take ((words A).length - 1))
  rw [List.length_take, Nat.min_eq_left (by omega)] at h4
  generalize hx : nth (words A) ((words A).length - 1) = x at *
  generalize hk : (words A).length - 1 = k at *
  unfold bl
  rw [if_neg h, if_neg h1]
  have e : A.log2 = 64 * k + x.log2 := by
    rw [Nat.log2_eq_iff h]
    have a1 := Nat.log2_self_le h1
    have a2 : x < 2 ^ (x.log2 + 1) := Nat.lt_log2_self
    have hB : B64 ^ k = 2 ^ (64 * k) := by rw [B64_pow, ← Nat.pow_mul]
    rw [hB] at h3 h4
    constructor
    · rw [Nat.pow_add]
      have := Nat.mul_le_mul_left (2 ^ (64 * k)) a1
      omega
    · rw [Nat.add_assoc, Nat.pow_add]
      have := Nat.mul_le_mul_left (2 ^ (64 * k)) (show x + 1 ≤ 2 ^ (x.log2 + 1) from a2)
      rw [Nat.mul_add] at this
      omega
  rw [e]; omega

theorem bl_le {x : Nat} (h : x < B64) : bl x ≤ 64 := by
  unfold bl
  split
  · omega
  · rename_i h0
    have h1 := Nat.log2_self_le h0
    have : 2 ^ x.log2 < 2 ^ 64 := by rw [B64_pow] at h; omega
    have := (Nat.pow_lt_pow_iff_right (by omega : 1 < 2)).1 this
    omega

set_option maxRecDepth 100000 in
theorem len_any (va : Value) (A : Nat) (w : World) (ha : Rd64 w va (words A)) (hl : (words A).length ≤ 1048576) :
    Calls Tryz.prog 78 #[va] w fun e w' => e = .returned (.int .i64 (bl A)) ∧ w = w' := by
  have sA := small_words A
  by_cases h0 : A = 0
  · subst h0
    rw [words_zero] at ha
    obtain ⟨p, ca, rfl, hac, ham, hap⟩ := ha
    go_enter Tryz.func78, Tryz.ntmps78
    go_wp2_with fail
    go_ret
    exact ⟨rfl, rfl⟩
  · have hne := words_nil_iff (n := A)
    have HB := Lib.hid (bl_words h0)
    have hx := sA.nth ((words A).length - 1)
    have hb := bl_bitLen hx
    generalize words A = a at *
    obtain ⟨p, ca, rfl, hac, ham, hap⟩ := ha
    simp only [maxLen] at ham
    obtain ⟨b, off, rfl, hc⟩ := hap (by rintro rfl; simp at hne; omega)
    obtain ⟨j, hj⟩ : ∃ j, a.length = j + 1 := ⟨a.length - 1, by omega⟩
    have hc1 := hc j (by omega)
    clear hc hap
    rw [hj, Nat.add_sub_cancel] at HB hx hb
    have hjb : j < 1048576 := by omega
    have hac' : j + 1 ≤ ca := by omega
    rw [hj]
    have HJ := Lib.hid hj
    clear hac hl
    have HB2 := Lib.hid hb
    clear hj hb hne
    have hxx : nth a j < 18446744073709551616 := by rw [← B64_def]; exact hx
    go_enter Tryz.func78, Tryz.ntmps78
    go_wp2_with fail
    refine (Tryz.bits_Len64 _ _ (by omega) (by omega)).mono ?_
    rintro e w' ⟨rfl, rfl⟩
    rw [Int.toNat_natCast, HB2.out]
    have hbl : bl (nth a j) ≤ 64 := bl_le hx
    go_wp2_with fail
    go_ret
    exact ⟨ret_int (by rw [HB.out]; omega), rfl⟩

end Go.Proofs.YteophaobcebppaaGreatDoor.dg
