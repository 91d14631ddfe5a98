/- Plain: decimal digits as a number. Conditions: none beyond what each says. -/
import Derived.Lib.ParseIntB
set_option linter.unusedSimpArgs false
namespace Go.Proofs.YteophaobcebppaaGreatDoor.dg
set_option linter.unusedVariables false

/-- the number that digits spell, behind a. -/
def dvalA (a : Nat) (l : List UInt8) : Nat := l.foldl (fun a c => a * 10 + (c.toNat - 48)) a
def dval (l : List UInt8) : Nat := dvalA 0 l
/-- nothing but digits. -/
def AllD (l : List UInt8) : Prop := ∀ c ∈ l, 48 ≤ c.toNat ∧ c.toNat ≤ 57

theorem AllD.drop {l : List UInt8} (h : AllD l) (k : Nat) : AllD (l.drop k) := fun c hc => h c (List.mem_of_mem_drop hc)
theorem AllD.take {l : List UInt8} (h : AllD l) (k : Nat) : AllD (l.take k) := fun c hc => h c (List.mem_of_mem_take hc)
theorem AllD.append {l r : List UInt8} (h : AllD l) (h2 : AllD r) : AllD (l ++ r) := fun c hc => by
  rcases List.mem_append.1 hc with x | x
  · exact h c x
  · exact h2 c x
theorem AllD.tail {c : UInt8} {l : List UInt8} (h : AllD (c :: l)) : AllD l := fun x hx => h x (List.mem_cons_of_mem _ hx)

theorem dvalA_cons (a : Nat) (c : UInt8) (r : List UInt8) : dvalA a (c :: r) = dvalA (a * 10 + (c.toNat - 48)) r := by unfold dvalA; exact List.foldl_cons ..
theorem dvalA_nil (a : Nat) : dvalA a [] = a := by unfold dvalA; exact List.foldl_nil ..
theorem dvalA_eq (a : Nat) (l : List UInt8) : dvalA a l = a * 10 ^ l.length + dvalA 0 l := by
  induction l generalizing a with
  | nil => rw [dvalA_nil, dvalA_nil, List.length_nil, Nat.pow_zero, Nat.mul_one, Nat.add_zero]
  | cons c r ih =>
    rw [dvalA_cons, dvalA_cons, ih, ih (0 * 10 + (c.toNat - 48)), Nat.zero_mul, Nat.zero_add, List.length_cons, Nat.pow_succ, Nat.add_mul, Nat.mul_assoc, Nat.mul_comm 10, Nat.add_assoc]

theorem dvalA_append (a : Nat) (l r : List UInt8) : dvalA a (l ++ r) = dvalA (dvalA a l) r := by
  induction l generalizing a with
  | nil => rw [List.nil_append, dvalA_nil]
  | cons c t ih => rw [List.cons_append, dvalA_cons, dvalA_cons, ih]

theorem dval_append (l r : List UInt8) : dval (l ++ r) = dval l * 10 ^ r.length + dval r := by
  unfold dval
  rw [dvalA_append, dvalA_eq]

theorem dval_nil : dval [] = 0 := dvalA_nil 0

theorem dval_cons (c : UInt8) (l : List UInt8) : dval (c :: l) = (c.toNat - 48) * 10 ^ l.length + dval l := by
  unfold dval
  rw [dvalA_cons, dvalA_eq, Nat.zero_mul, Nat.zero_add]

theorem dval_lt {l : List UInt8} (h : AllD l) : dval l < 10 ^ l.length := by
  induction l with
  | nil => rw [dval_nil]; exact Nat.one_pos
  | cons c r ih =>
    have h1 := ih h.tail
    have h2 := h c (List.mem_cons_self ..)
    rw [dval_cons, List.length_cons, Nat.pow_succ]
    have h3 : (c.toNat - 48) * 10 ^ r.length ≤ 9 * 10 ^ r.length := Nat.mul_le_mul_right _ (by omega)
    omega

theorem parseUintM_ok {l : List UInt8} (h : AllD l) (a : Nat) (hb : dvalA a l ≤ 10 ^ 18) : Lib.parseUintM (2 ^ 64 - 1) a l = .ok (dvalA a l) := by
  induction l generalizing a with
  | nil => rw [dvalA_nil]; unfold Lib.parseUintM; rfl
  | cons c r ih =>
    have h1 := h c (List.mem_cons_self ..)
    rw [dvalA_cons] at hb
    have hb' := hb
    have h2 : a * 10 + (c.toNat - 48) ≤ 10 ^ 18 := by
      rw [dvalA_eq] at hb'
      have : (a * 10 + (c.toNat - 48)) * 1 ≤ (a * 10 + (c.toNat - 48)) * 10 ^ r.length := Nat.mul_le_mul_left _ (Nat.pow_pos (by omega))
      omega
    rw [dvalA_cons]
    unfold Lib.parseUintM
    rw [if_pos h1, if_neg (by omega), if_neg (by omega)]
    exact ih h.tail _ hb'

theorem parseUintB_ok {l : List UInt8} (h : AllD l) (h0 : l ≠ []) (hl : l.length ≤ 18) : Lib.parseUintB 64 l = .ok (dval l) := by
  unfold Lib.parseUintB
  rw [if_neg h0]
  refine parseUintM_ok h 0 ?_
  have h1 := dval_lt h
  have h2 : 10 ^ l.length ≤ 10 ^ 18 := Nat.pow_le_pow_right (by omega) hl
  show dval l ≤ _
  omega

end Go.Proofs.YteophaobcebppaaGreatDoor.dg
