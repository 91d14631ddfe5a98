/- Plain: whole numbers as lists of wds of 32 bits, the lowest first. Conditions: none. -/
import Derived.Test.YteophaobcebppaaGreatDoorWords
set_option linter.unusedSimpArgs false
set_option linter.unusedVariables false
namespace Go.Proofs.YteophaobcebppaaGreatDoor.dg

/-- 2^32, behind a name. -/
def B32 : Nat := 4294967296
theorem B32_def : B32 = 4294967296 := rfl
theorem B32_pow : B32 = 2 ^ 32 := rfl
theorem B32_pos : 0 < B32 := by decide

/-- the number of a list of wds. -/
def vl : List Nat → Nat
  | [] => 0
  | x :: r => x + B32 * vl r

/-- every word is one. -/
def Sml (l : List Nat) : Prop := ∀ x ∈ l, x < B32

/-- a number's wds. -/
def wds (n : Nat) : List Nat := if _h : n = 0 then [] else n % B32 :: wds (n / B32)
termination_by n
decreasing_by exact Nat.div_lt_self (by omega) (by decide)

theorem wds_zero : wds 0 = [] := by unfold wds; simp
theorem wds_pos {n : Nat} (h : n ≠ 0) : wds n = n % B32 :: wds (n / B32) := by rw [wds]; simp [h]
theorem wds_one {n : Nat} (h0 : 0 < n) (h1 : n < B32) : wds n = [n] := by
  rw [wds_pos (by omega), Nat.mod_eq_of_lt h1, Nat.div_eq_of_lt h1, wds_zero]

theorem vl_wds (n : Nat) : vl (wds n) = n := by
  induction n using Nat.strongRecOn with
  | ind n ih =>
    by_cases h : n = 0
    · subst h; rw [wds_zero]; rfl
    · rw [wds_pos h]
      show n % B32 + B32 * vl (wds (n / B32)) = n
      rw [ih _ (Nat.div_lt_self (by omega) (by decide))]
      exact Nat.mod_add_div n B32

theorem sml_wds (n : Nat) : Sml (wds n) := by
  induction n using Nat.strongRecOn with
  | ind n ih =>
    by_cases h : n = 0
    · subst h; rw [wds_zero]; intro x hx; cases hx
    · rw [wds_pos h]
      intro x hx
      rcases List.mem_cons.1 hx with rfl | hx
      · exact Nat.mod_lt _ B32_pos
      · exact ih _ (Nat.div_lt_self (by omega) (by decide)) x hx

theorem Sml.tail {x : Nat} {l : List Nat} (h : Sml (x :: l)) : Sml l := fun y hy => h y (List.mem_cons_of_mem _ hy)
theorem Sml.head {x : Nat} {l : List Nat} (h : Sml (x :: l)) : x < B32 := h x (List.mem_cons_self ..)
theorem Sml.take {l : List Nat} (h : Sml l) (k : Nat) : Sml (l.take k) := fun x hx => h x (List.mem_of_mem_take hx)
theorem Sml.drop {l : List Nat} (h : Sml l) (k : Nat) : Sml (l.drop k) := fun x hx => h x (List.mem_of_mem_drop hx)
theorem Sml.snoc {l : List Nat} {x : Nat} (h : Sml l) (hx : x < B32) : Sml (l ++ [x]) := fun y hy => by
  rcases List.mem_append.1 hy with hy | hy
  · exact h y hy
  · have := List.mem_singleton.1 hy; subst this; exact hx
theorem Sml.nth {l : List Nat} (h : Sml l) (k : Nat) : nth l k < B32 := by
  by_cases hk : k < l.length
  · exact h _ (nth_mem hk)
  · rw [nth_beyond (by omega)]; exact B32_pos
theorem Sml.nil : Sml [] := fun _ h => by cases h

theorem vl_append (a b : List Nat) : vl (a ++ b) = vl a + B32 ^ a.length * vl b := by
  induction a with
  | nil => simp [vl]
  | cons x a ih =>
    simp only [List.cons_append, vl, ih, List.length_cons, Nat.pow_succ]
    rw [Nat.mul_add, Nat.add_assoc, ← Nat.mul_assoc, Nat.mul_comm B32 (B32 ^ a.length)]

theorem vl_snoc (a : List Nat) (x : Nat) : vl (a ++ [x]) = vl a + B32 ^ a.length * x := by
  rw [vl_append]; simp [vl]

theorem take_snoc32 {l : List Nat} {k : Nat} (h : k < l.length) : l.take (k + 1) = l.take k ++ [nth l k] := by
  rw [List.take_succ_eq_append_getElem h, nth_get h]

theorem vl_take_succ {l : List Nat} {k : Nat} (h : k < l.length) : vl (l.take (k + 1)) = vl (l.take k) + B32 ^ k * nth l k := by
  rw [take_snoc32 h, vl_snoc, List.length_take, Nat.min_eq_left (by omega)]

theorem vl_lt {l : List Nat} (h : Sml l) : vl l < B32 ^ l.length := by
  induction l with
  | nil => simp [vl]
  | cons x l ih =>
    have h1 := ih h.tail
    have h2 := h.head
    simp only [vl, List.length_cons, Nat.pow_succ]
    have : B32 * (vl l + 1) ≤ B32 * B32 ^ l.length := Nat.mul_le_mul_left _ h1
    rw [Nat.mul_comm (B32 ^ l.length)]
    rw [Nat.mul_add] at this; omega

/-- the wds of a list whose last word is not 0 are the list. -/
theorem wds_vl {l : List Nat} (h : Sml l) (hl : l = [] ∨ nth l (l.length - 1) ≠ 0) : wds (vl l) = l := by
  induction l with
  | nil => simp [vl, wds_zero]
  | cons x l ih =>
    have hx := h.head
    have hn : vl (x :: l) ≠ 0 := by
      intro e
      simp only [vl] at e
      have e1 : x = 0 := by omega
      have e2 : vl l = 0 := by
        rcases Nat.mul_eq_zero.1 (show B32 * vl l = 0 by omega) with h | h
        · exact absurd h (by decide)
        · exact h
      rcases hl with hl | hl
      · cases hl
      · cases l with
        | nil => exact hl (by simpa [nth] using e1)
        | cons y l =>
          have hl' : nth (y :: l) ((y :: l).length - 1) ≠ 0 := by
            rw [show (x :: y :: l).length - 1 = ((y :: l).length - 1) + 1 from by simp, nth_cons_succ] at hl; exact hl
          have := ih h.tail (Or.inr hl')
          rw [e2, wds_zero] at this
          cases this
    rw [wds_pos hn]
    have e1 : vl (x :: l) % B32 = x := by simp only [vl]; rw [Nat.add_mul_mod_self_left, Nat.mod_eq_of_lt hx]
    have e2 : vl (x :: l) / B32 = vl l := by simp only [vl]; rw [Nat.add_mul_div_left _ _ B32_pos, Nat.div_eq_of_lt hx, Nat.zero_add]
    rw [e1, e2, ih h.tail]
    cases l with
    | nil => exact Or.inl rfl
    | cons y l =>
      rcases hl with hl | hl
      · cases hl
      · exact Or.inr (by rw [show (x :: y :: l).length - 1 = ((y :: l).length - 1) + 1 from by simp, nth_cons_succ] at hl; exact hl)

theorem wds_length_lt {n k : Nat} (h : n < B32 ^ k) : (wds n).length ≤ k := by
  induction k generalizing n with
  | zero => simp at h; subst h; rw [wds_zero]; simp
  | succ k ih =>
    by_cases h0 : n = 0
    · subst h0; rw [wds_zero]; simp
    · rw [wds_pos h0]
      have : n / B32 < B32 ^ k := by
        rw [Nat.div_lt_iff_lt_mul B32_pos]; rw [Nat.pow_succ] at h; exact h
      have := ih this
      simp; omega

theorem wds_last {n : Nat} (h : n ≠ 0) : nth (wds n) ((wds n).length - 1) ≠ 0 := by
  induction n using Nat.strongRecOn with
  | ind n ih =>
    rw [wds_pos h]
    by_cases h1 : n / B32 = 0
    · rw [h1, wds_zero]
      have : n % B32 = n := by rw [Nat.mod_eq_of_lt]; rcases (Nat.div_eq_zero_iff.1 h1) with h | h; exact absurd h (by decide); exact h
      simp [nth, this, h]
    · have := ih _ (Nat.div_lt_self (by omega) (by decide)) h1
      have hne : (wds (n / B32)).length ≠ 0 := by
        intro e; rw [wds_pos h1] at e; simp at e
      rw [show (n % B32 :: wds (n / B32)).length - 1 = (wds (n / B32)).length - 1 + 1 from by simp only [List.length_cons]; omega, nth_cons_succ]
      exact this

theorem wds_nil_iff {n : Nat} : (wds n).length = 0 ↔ n = 0 := by
  constructor
  · intro h
    by_cases h0 : n = 0
    · exact h0
    · rw [wds_pos h0] at h; simp at h
  · intro h; subst h; rw [wds_zero]; rfl

/-- lower bound: the top word. -/
theorem wds_ge {n : Nat} (h : n ≠ 0) : B32 ^ ((wds n).length - 1) ≤ n := by
  have h1 := wds_last h
  have hlen : (wds n).length ≠ 0 := fun e => h (wds_nil_iff.1 e)
  have h2 : (wds n).length - 1 < (wds n).length := by omega
  have h3 := vl_take_succ (l := wds n) (k := (wds n).length - 1) h2
  rw [show (wds n).length - 1 + 1 = (wds n).length from by omega, List.take_length, vl_wds] at h3
  have : B32 ^ ((wds n).length - 1) * 1 ≤ B32 ^ ((wds n).length - 1) * nth (wds n) ((wds n).length - 1) := Nat.mul_le_mul_left _ (by omega)
  omega

end Go.Proofs.YteophaobcebppaaGreatDoor.dg
