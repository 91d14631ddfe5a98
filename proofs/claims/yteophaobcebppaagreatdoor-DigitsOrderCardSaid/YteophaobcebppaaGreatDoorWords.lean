/- Plain: whole numbers as lists of words of 64 bits, the lowest first. Conditions: none. -/
import Derived.KernelRfl
set_option linter.unusedSimpArgs false
set_option linter.unusedVariables false
namespace Go.Proofs.YteophaobcebppaaGreatDoor.dg

/-- 2^64, behind a name. -/
def B64 : Nat := 18446744073709551616
theorem B64_def : B64 = 18446744073709551616 := rfl
theorem B64_pow : B64 = 2 ^ 64 := rfl
theorem B64_pos : 0 < B64 := by decide

/-- the i-th of a list (0 beyond its end), behind a name. -/
def nth (l : List Nat) (i : Nat) : Nat := l.getD i 0
theorem nth_take {l : List Nat} {i k : Nat} (h : i < k) : nth (l.take k) i = nth l i := by
  unfold nth; rw [List.getD_eq_getElem?_getD, List.getD_eq_getElem?_getD, List.getElem?_take, if_pos h]
theorem nth_drop {l : List Nat} {i k : Nat} : nth (l.drop k) i = nth l (k + i) := by
  unfold nth; rw [List.getD_eq_getElem?_getD, List.getD_eq_getElem?_getD, List.getElem?_drop]
theorem nth_get {l : List Nat} {i : Nat} (h : i < l.length) : nth l i = l[i] := by
  unfold nth; rw [List.getD_eq_getElem?_getD, List.getElem?_eq_getElem h]; rfl
theorem nth_beyond {l : List Nat} {i : Nat} (h : l.length ≤ i) : nth l i = 0 := by
  unfold nth; rw [List.getD_eq_getElem?_getD, List.getElem?_eq_none h]; rfl
theorem nth_cons_succ {x : Nat} {l : List Nat} {i : Nat} : nth (x :: l) (i + 1) = nth l i := by unfold nth; simp
theorem nth_cons_zero {x : Nat} {l : List Nat} : nth (x :: l) 0 = x := rfl
theorem nth_append_lt {a b : List Nat} {i : Nat} (h : i < a.length) : nth (a ++ b) i = nth a i := by
  unfold nth; rw [List.getD_eq_getElem?_getD, List.getD_eq_getElem?_getD, List.getElem?_append_left h]
theorem nth_append_at {a : List Nat} {x : Nat} : nth (a ++ [x]) a.length = x := by
  unfold nth; rw [List.getD_eq_getElem?_getD]; simp
theorem nth_mem {l : List Nat} {i : Nat} (h : i < l.length) : nth l i ∈ l := by rw [nth_get h]; exact List.getElem_mem h

/-- the number of a list of words. -/
def val : List Nat → Nat
  | [] => 0
  | x :: r => x + B64 * val r

/-- every word is one. -/
def Small (l : List Nat) : Prop := ∀ x ∈ l, x < B64

/-- a number's words. -/
def words (n : Nat) : List Nat := if _h : n = 0 then [] else n % B64 :: words (n / B64)
termination_by n
decreasing_by exact Nat.div_lt_self (by omega) (by decide)

theorem words_zero : words 0 = [] := by unfold words; simp
theorem words_pos {n : Nat} (h : n ≠ 0) : words n = n % B64 :: words (n / B64) := by rw [words]; simp [h]
theorem words_one {n : Nat} (h0 : 0 < n) (h1 : n < B64) : words n = [n] := by
  rw [words_pos (by omega), Nat.mod_eq_of_lt h1, Nat.div_eq_of_lt h1, words_zero]

theorem val_words (n : Nat) : val (words n) = n := by
  induction n using Nat.strongRecOn with
  | ind n ih =>
    by_cases h : n = 0
    · subst h; rw [words_zero]; rfl
    · rw [words_pos h]
      show n % B64 + B64 * val (words (n / B64)) = n
      rw [ih _ (Nat.div_lt_self (by omega) (by decide))]
      exact Nat.mod_add_div n B64

theorem small_words (n : Nat) : Small (words n) := by
  induction n using Nat.strongRecOn with
  | ind n ih =>
    by_cases h : n = 0
    · subst h; rw [words_zero]; intro x hx; cases hx
    · rw [words_pos h]
      intro x hx
      rcases List.mem_cons.1 hx with rfl | hx
      · exact Nat.mod_lt _ B64_pos
      · exact ih _ (Nat.div_lt_self (by omega) (by decide)) x hx

theorem Small.tail {x : Nat} {l : List Nat} (h : Small (x :: l)) : Small l := fun y hy => h y (List.mem_cons_of_mem _ hy)
theorem Small.head {x : Nat} {l : List Nat} (h : Small (x :: l)) : x < B64 := h x (List.mem_cons_self ..)
theorem Small.take {l : List Nat} (h : Small l) (k : Nat) : Small (l.take k) := fun x hx => h x (List.mem_of_mem_take hx)
theorem Small.drop {l : List Nat} (h : Small l) (k : Nat) : Small (l.drop k) := fun x hx => h x (List.mem_of_mem_drop hx)
theorem Small.snoc {l : List Nat} {x : Nat} (h : Small l) (hx : x < B64) : Small (l ++ [x]) := fun y hy => by
  rcases List.mem_append.1 hy with hy | hy
  · exact h y hy
  · have := List.mem_singleton.1 hy; subst this; exact hx
theorem Small.nth {l : List Nat} (h : Small l) (k : Nat) : nth l k < B64 := by
  by_cases hk : k < l.length
  · exact h _ (nth_mem hk)
  · rw [nth_beyond (by omega)]; exact B64_pos
theorem Small.nil : Small [] := fun _ h => by cases h

theorem val_append (a b : List Nat) : val (a ++ b) = val a + B64 ^ a.length * val b := by
  induction a with
  | nil => simp [val]
  | cons x a ih =>
    simp only [List.cons_append, val, ih, List.length_cons, Nat.pow_succ]
    rw [Nat.mul_add, Nat.add_assoc, ← Nat.mul_assoc, Nat.mul_comm B64 (B64 ^ a.length)]

theorem val_snoc (a : List Nat) (x : Nat) : val (a ++ [x]) = val a + B64 ^ a.length * x := by
  rw [val_append]; simp [val]

theorem take_snoc' {l : List Nat} {k : Nat} (h : k < l.length) : l.take (k + 1) = l.take k ++ [nth l k] := by
  rw [List.take_succ_eq_append_getElem h, nth_get h]

theorem val_take_succ {l : List Nat} {k : Nat} (h : k < l.length) : val (l.take (k + 1)) = val (l.take k) + B64 ^ k * nth l k := by
  rw [take_snoc' h, val_snoc, List.length_take, Nat.min_eq_left (by omega)]

theorem val_lt {l : List Nat} (h : Small l) : val l < B64 ^ l.length := by
  induction l with
  | nil => simp [val]
  | cons x l ih =>
    have h1 := ih h.tail
    have h2 := h.head
    simp only [val, List.length_cons, Nat.pow_succ]
    have : B64 * (val l + 1) ≤ B64 * B64 ^ l.length := Nat.mul_le_mul_left _ h1
    rw [Nat.mul_comm (B64 ^ l.length)]
    rw [Nat.mul_add] at this; omega

/-- the words of a list whose last word is not 0 are the list. -/
theorem words_val {l : List Nat} (h : Small l) (hl : l = [] ∨ nth l (l.length - 1) ≠ 0) : words (val l) = l := by
  induction l with
  | nil => simp [val, words_zero]
  | cons x l ih =>
    have hx := h.head
    have hn : val (x :: l) ≠ 0 := by
      intro e
      simp only [val] at e
      have e1 : x = 0 := by omega
      have e2 : val l = 0 := by
        rcases Nat.mul_eq_zero.1 (show B64 * val l = 0 by omega) with h | h
        · exact absurd h (by decide)
        · exact h
      rcases hl with hl | hl
      · cases hl
      · cases l with
        | nil => exact hl (by simpa [nth] using e1)
        | cons y l =>
          have hl' : nth (y :: l) ((y :: l).length - 1) ≠ 0 := by
            rw [show (x :: y :: l).length - 1 = ((y :: l).length - 1) + 1 from by simp, nth_cons_succ] at hl; exact hl
          have := ih h.tail (Or.inr hl')
          rw [e2, words_zero] at this
          cases this
    rw [words_pos hn]
    have e1 : val (x :: l) % B64 = x := by simp only [val]; rw [Nat.add_mul_mod_self_left, Nat.mod_eq_of_lt hx]
    have e2 : val (x :: l) / B64 = val l := by simp only [val]; rw [Nat.add_mul_div_left _ _ B64_pos, Nat.div_eq_of_lt hx, Nat.zero_add]
    rw [e1, e2, ih h.tail]
    cases l with
    | nil => exact Or.inl rfl
    | cons y l =>
      rcases hl with hl | hl
      · cases hl
      · exact Or.inr (by rw [show (x :: y :: l).length - 1 = ((y :: l).length - 1) + 1 from by simp, nth_cons_succ] at hl; exact hl)

theorem words_length_lt {n k : Nat} (h : n < B64 ^ k) : (words n).length ≤ k := by
  induction k generalizing n with
  | zero => simp at h; subst h; rw [words_zero]; simp
  | succ k ih =>
    by_cases h0 : n = 0
    · subst h0; rw [words_zero]; simp
    · rw [words_pos h0]
      have : n / B64 < B64 ^ k := by
        rw [Nat.div_lt_iff_lt_mul B64_pos]; rw [Nat.pow_succ] at h; exact h
      have := ih this
      simp; omega

theorem words_last {n : Nat} (h : n ≠ 0) : nth (words n) ((words n).length - 1) ≠ 0 := by
  induction n using Nat.strongRecOn with
  | ind n ih =>
    rw [words_pos h]
    by_cases h1 : n / B64 = 0
    · rw [h1, words_zero]
      have : n % B64 = n := by rw [Nat.mod_eq_of_lt]; rcases (Nat.div_eq_zero_iff.1 h1) with h | h; exact absurd h (by decide); exact h
      simp [nth, this, h]
    · have := ih _ (Nat.div_lt_self (by omega) (by decide)) h1
      have hne : (words (n / B64)).length ≠ 0 := by
        intro e; rw [words_pos h1] at e; simp at e
      rw [show (n % B64 :: words (n / B64)).length - 1 = (words (n / B64)).length - 1 + 1 from by simp only [List.length_cons]; omega, nth_cons_succ]
      exact this

theorem words_nil_iff {n : Nat} : (words n).length = 0 ↔ n = 0 := by
  constructor
  · intro h
    by_cases h0 : n = 0
    · exact h0
    · rw [words_pos h0] at h; simp at h
  · intro h; subst h; rw [words_zero]; rfl

/-- lower bound: the top word. -/
theorem words_ge {n : Nat} (h : n ≠ 0) : B64 ^ ((words n).length - 1) ≤ n := by
  have h1 := words_last h
  have hlen : (words n).length ≠ 0 := fun e => h (words_nil_iff.1 e)
  have h2 : (words n).length - 1 < (words n).length := by omega
  have h3 := val_take_succ (l := words n) (k := (words n).length - 1) h2
  rw [show (words n).length - 1 + 1 = (words n).length from by omega, List.take_length, val_words] at h3
  have : B64 ^ ((words n).length - 1) * 1 ≤ B64 ^ ((words n).length - 1) * nth (words n) ((words n).length - 1) := Nat.mul_le_mul_left _ (by omega)
  omega

end Go.Proofs.YteophaobcebppaaGreatDoor.dg
