/- The walk of large.Cmp. Conditions: none beyond what each says. -/
import Derived.Test.YteophaobcebppaaGreatDoorNatA
set_option linter.unusedSimpArgs false
namespace Go.Proofs.YteophaobcebppaaGreatDoor.dg
open Go.RowKit
set_option linter.unusedVariables false

theorem val_lt_of_top {a b : List Nat} (ha : Small a) (hl : a.length = b.length) {k : Nat} (hk : k < a.length) (hd : a.drop (k + 1) = b.drop (k + 1)) (hlt : nth a k < nth b k) : val a < val b := by
  have e1 : a = a.take (k + 1) ++ a.drop (k + 1) := (List.take_append_drop _ _).symm
  have e2 : b = b.take (k + 1) ++ b.drop (k + 1) := (List.take_append_drop _ _).symm
  rw [e1, e2, val_append, val_append, ← hd, List.length_take, List.length_take, ← hl, val_take_succ hk, val_take_succ (by omega)]
  have h1 := val_lt (ha.take k)
  rw [List.length_take, Nat.min_eq_left (by omega)] at h1
  have h2 : B64 ^ k * (nth a k + 1) ≤ B64 ^ k * nth b k := Nat.mul_le_mul_left _ hlt
  rw [Nat.mul_add] at h2
  omega

theorem words_len_lt {A B : Nat} (h : (words A).length < (words B).length) : A < B := by
  have hB : B ≠ 0 := by rintro rfl; rw [words_zero] at h; simp at h
  have h1 := words_ge hB
  have h2 := val_lt (small_words A)
  rw [val_words] at h2
  have h3 : B64 ^ (words A).length ≤ B64 ^ ((words B).length - 1) := Nat.pow_le_pow_right B64_pos (by omega)
  omega

/-- how two numbers stand, as an int tells it. -/
def Stand (r : Int) (A B : Nat) : Prop := (r < 0 ↔ A < B) ∧ (0 < r ↔ B < A)

theorem drop_succ_eq {a b : List Nat} (hl : a.length = b.length) {k : Nat} (hk : k < a.length) (hd : a.drop (k + 1) = b.drop (k + 1)) (h : nth a k = nth b k) : a.drop k = b.drop k := by
  rw [List.drop_eq_getElem_cons hk, List.drop_eq_getElem_cons (by omega : k < b.length), hd, ← nth_get hk, ← nth_get (by omega : k < b.length), h]

set_option maxHeartbeats 800000 in
theorem cmp_any (va vb : Value) (A B : Nat) (w : World) (ha : Rd64 w va (words A)) (hb : Rd64 w vb (words B)) :
    Calls Tryz.prog 44 #[va, vb] w fun e w' => ∃ r : Int, e = .returned (.int .i64 r) ∧ Stand r A B ∧ ∃ n, w' = w.drewN n := by
  have sa := small_words A
  have sb := small_words B
  have eA := val_words A
  have eB := val_words B
  have hlt1 : (words A).length < (words B).length → A < B := words_len_lt
  have hlt2 : (words B).length < (words A).length → B < A := words_len_lt
  generalize words A = a at *
  generalize words B = b at *
  obtain ⟨p, ca, rfl, hac, ham, hap⟩ := ha
  obtain ⟨q, cb, rfl, hbc, hbm, hbp⟩ := hb
  simp only [maxLen] at ham hbm
  by_cases hl : a.length = b.length
  · have hb0 : (((a.length : Nat) : Int) != (b.length : Nat)) = false := by simp [hl]
    have HL : b.length = a.length := hl.symm
    have hl2 := HL
    rw [HL] at hb0 ⊢
    rw [HL] at hbc
    clear hl HL
    have HE0 := Lib.hid hl2; clear hl2
    have HE : Hid (b.length = a.length) := HE0
    go_enter Tryz.func44, Tryz.ntmps44
    go_wp2_with fail
    go_loopw [5] (fun t wr => ∃ k : Nat, k ≤ a.length ∧ t = .int .i64 ((k : Int) - 1) ∧ a.drop k = b.drop k ∧ ∃ n, wr = w.drewN n) (fun t _ => (intOf t + 1).toNat)
    case atStart => exact ⟨a.length, Nat.le_refl _, rfl, by rw [List.drop_length, ← HE.out, List.drop_length], 0, rfl⟩
    case round =>
      obtain ⟨k, hk, rfl, hd, n, rfl⟩ := hrel
      have HD := Lib.hid hd; clear hd
      by_cases hk0 : k = 0
      · subst hk0
        go_wp2_with fail
        go_ret
        have e : a = b := by have := HD.out; simpa using this
        have e2 : A = B := by rw [← eA, ← eB, e]
        exact ⟨0, rfl, ⟨by omega, by omega⟩, n, rfl⟩
      · obtain ⟨j, rfl⟩ : ∃ j, k = j + 1 := ⟨k - 1, by omega⟩
        have hj : (((j + 1 : Nat) : Int) - 1) = j := by omega
        rw [hj]
        clear hj
        obtain ⟨ba, oa, rfl, hca⟩ := hap (by rintro rfl; simp at hk)
        obtain ⟨bb, ob, rfl, hcb⟩ := hbp (by rintro rfl; have := HE.out; simp at this; omega)
        have c1 := hca j (by omega)
        have c2 := hcb j (by rw [HE.out]; omega)
        clear hca hcb
        have hcmp : nth a j < nth b j ∨ nth b j < nth a j ∨ nth a j = nth b j := by omega
        rcases hcmp with h | h | h
        · have hA : A < B := by rw [← eA, ← eB]; exact val_lt_of_top sa HE.out.symm (by omega) HD.out h
          have t1 : ((nth a j : Nat) : Int) < (nth b j : Nat) := by omega
          go_wp2_with fail
          go_quiet (fail)
          go_wp2_with fail
          go_ret
          exact ⟨-1, rfl, ⟨by omega, by omega⟩, _, by first | rfl | (simp only [World.drewN_drewN]; rfl)⟩
        · have hA : B < A := by rw [← eA, ← eB]; exact val_lt_of_top sb HE.out (by rw [HE.out]; omega) HD.out.symm h
          have t1 : ((nth b j : Nat) : Int) < (nth a j : Nat) := by omega
          go_wp2_with fail
          go_quiet (fail)
          go_wp2_with fail
          go_quiet (fail)
          go_wp2_with fail
          go_ret
          exact ⟨1, rfl, ⟨by omega, by omega⟩, _, by first | rfl | (simp only [World.drewN_drewN]; rfl)⟩
        · have HN := Lib.hid (drop_succ_eq HE.out.symm (by omega) HD.out h)
          rw [← h] at c2
          clear h
          go_wp2_with fail
          go_quiet (fail)
          go_wp2_with fail
          go_quiet (fail)
          go_wp2_with fail
          go_roundw
          case rel => exact ⟨j, by omega, rfl, HN.out, _, by first | rfl | (simp only [World.drewN_drewN]; rfl)⟩
          case measure => simp [intOf]
  · have hb0 : (((a.length : Nat) : Int) != (b.length : Nat)) = true := by simp; omega
    go_enter Tryz.func44, Tryz.ntmps44
    go_wp2_with fail
    go_ret
    refine ⟨_, rfl, ⟨?_, ?_⟩, 0, rfl⟩
    · have : (a.length < b.length) ∨ (b.length < a.length) := by omega
      rcases this with h | h
      · have := hlt1 h; omega
      · have := hlt2 h; omega
    · have : (a.length < b.length) ∨ (b.length < a.length) := by omega
      rcases this with h | h
      · have := hlt1 h; omega
      · have := hlt2 h; omega

end Go.Proofs.YteophaobcebppaaGreatDoor.dg
