/- Plain: what Parse tells of a text that is a figure: a sign, digits, a dot, digits, an exponent, and something that cannot go on. Conditions: none beyond what each says. -/
import Derived.Test.YteophaobcebppaaGreatDoorParse
set_option linter.unusedSimpArgs false
set_option linter.unusedVariables false
namespace Go.Proofs.YteophaobcebppaaGreatDoor.dg

/-- a list with which no figure goes on. -/
def Stops (R : List UInt8) : Prop := ∀ c r, R = c :: r → ¬ (48 ≤ c.toNat ∧ c.toNat ≤ 57) ∧ c ≠ 46 ∧ c ≠ 101 ∧ c ≠ 69
/-- a list that begins with no digit. -/
def NoDig (R : List UInt8) : Prop := ∀ c r, R = c :: r → ¬ (48 ≤ c.toNat ∧ c.toNat ≤ 57)

theorem isDB_iff (c : UInt8) : isDB c = true ↔ 48 ≤ c.toNat ∧ c.toNat ≤ 57 := by
  unfold isDB isD
  simp only [Bool.and_eq_true, decide_eq_true_eq]
  omega

theorem runL_app {W Y : List UInt8} (hW : AllD W) (hY : NoDig Y) : runL (W ++ Y) = W.length := by
  unfold runL
  induction W with
  | nil =>
    cases Y with
    | nil => rfl
    | cons c r =>
      have h := hY c r rfl
      rw [List.nil_append, List.takeWhile_cons, if_neg (by rw [isDB_iff]; exact h)]
      first | done | rfl
  | cons c r ih =>
    have h := hW c (by simp)
    rw [List.cons_append, List.takeWhile_cons, if_pos ((isDB_iff c).2 h), List.length_cons, List.length_cons, ih hW.tail]

theorem at_app {P Q : List UInt8} {k : Nat} (h : k = P.length) : (P ++ Q)[k]? = Q[0]? := by
  rw [h, List.getElem?_append_right (Nat.le_refl _), Nat.sub_self]
theorem drop_app {P Q : List UInt8} {k : Nat} (h : k = P.length) : (P ++ Q).drop k = Q := by
  rw [h]; exact List.drop_left
theorem take_app {P Q : List UInt8} {k : Nat} (h : k = P.length) : (P ++ Q).take k = P := by
  rw [h]; exact List.take_left

theorem dig_not {c : UInt8} (h : 48 ≤ c.toNat ∧ c.toNat ≤ 57) : c ≠ 43 ∧ c ≠ 45 ∧ c ≠ 46 ∧ c ≠ 101 ∧ c ≠ 69 := by
  refine ⟨?_, ?_, ?_, ?_, ?_⟩ <;> (rintro rfl; revert h; decide)

theorem expL_val (far : Int) (hf : 0 ≤ far) (l : List UInt8) (h : AllD l) : expL far l = min far ((dval l : Nat) : Int) := by
  have key : ∀ (l : List UInt8) (a : Nat), AllD l → l.foldl (fun e c => min far (10 * e + ((c.toNat : Int) - 48))) (min far (a : Int)) = min far ((dvalA a l : Nat) : Int) := by
    intro l
    induction l with
    | nil => intro a _; rw [dvalA_nil]; rfl
    | cons c r ih =>
      intro a hd
      have hc := hd c (List.mem_cons_self ..)
      rw [List.foldl_cons, dvalA_cons, ← ih _ hd.tail]
      congr 1
      have e1 : ((a * 10 + (c.toNat - 48) : Nat) : Int) = 10 * (a : Int) + ((c.toNat : Int) - 48) := by omega
      rw [e1]
      omega
  have := key l 0 h
  unfold expL dval
  rw [← this]
  congr 1
  omega

/-- the exponent's part of a figure: what it tells, how it looks. -/
def ExpPart (EP : List UInt8) (e : Int) : Prop :=
  (EP = [] ∧ e = 0) ∨ ∃ X, X ≠ [] ∧ AllD X ∧ ((EP = 101 :: X ∧ e = expL 1099511627776 X) ∨ (EP = 101 :: 43 :: X ∧ e = expL 1099511627776 X) ∨ (EP = 101 :: 45 :: X ∧ e = -expL 1099511627776 X))

theorem expo_part {P EP R : List UInt8} {e : Int} {a : Nat} (ha : a = P.length) (h : ExpPart EP e) (hR : Stops R) : expo 1099511627776 (P ++ (EP ++ R)) a = (e, EP.length) := by
  unfold expo
  rw [at_app ha]
  have hnd : NoDig R := fun c r e => (hR c r e).1
  rcases h with ⟨rfl, rfl⟩ | ⟨X, hne, hX, h⟩
  · rw [List.nil_append]
    have : ¬ (R[0]? = some 69 ∨ R[0]? = some 101) := by
      cases R with
      | nil => simp
      | cons c r =>
        have := hR c r rfl
        simp only [List.getElem?_cons_zero, Option.some.injEq]
        rintro (h | h)
        · exact this.2.2.2 h
        · exact this.2.2.1 h
    rw [if_neg this]; rfl
  · obtain ⟨x, y, rfl⟩ : ∃ x y, X = x :: y := by
      cases X with
      | nil => exact absurd rfl hne
      | cons x y => exact ⟨x, y, rfl⟩
    have hx := dig_not (hX x (by simp))
    have hrun := runL_app hX hnd
    rcases h with ⟨rfl, rfl⟩ | ⟨rfl, rfl⟩ | ⟨rfl, rfl⟩
    · have h101 : (101 :: x :: y ++ R)[0]? = some 69 ∨ (101 :: x :: y ++ R)[0]? = some 101 := Or.inr rfl
      rw [if_pos h101]
      have hd1 : P ++ (101 :: (x :: y) ++ R) = (P ++ [101]) ++ ((x :: y) ++ R) := by simp
      have ha1 : a + 1 = (P ++ [101]).length := by rw [List.length_append]; simp; omega
      have hs : sgnA (P ++ (101 :: (x :: y) ++ R)) (a + 1) = 0 := by
        unfold sgnA
        rw [hd1, at_app ha1]
        rw [if_neg (by simp; exact ⟨hx.1, hx.2.1⟩)]
      have hm : (P ++ (101 :: (x :: y) ++ R))[a + 1]? ≠ some 45 := by
        rw [hd1, at_app ha1]; simp; exact hx.2.1
      simp only [hs, Nat.add_zero]
      rw [hd1, drop_app ha1, hrun, ← hd1, if_neg (by simp), if_neg hm, take_app rfl]
      simp; omega
    · have h101 : (101 :: 43 :: x :: y ++ R)[0]? = some 69 ∨ (101 :: 43 :: x :: y ++ R)[0]? = some 101 := Or.inr rfl
      rw [if_pos h101]
      have hd1 : P ++ (101 :: 43 :: (x :: y) ++ R) = (P ++ [101]) ++ (43 :: (x :: y) ++ R) := by simp
      have hd2 : P ++ (101 :: 43 :: (x :: y) ++ R) = (P ++ [101, 43]) ++ ((x :: y) ++ R) := by simp
      have ha1 : a + 1 = (P ++ [101]).length := by rw [List.length_append]; simp; omega
      have ha2 : a + 1 + 1 = (P ++ [101, 43]).length := by rw [List.length_append]; simp; omega
      have hs : sgnA (P ++ (101 :: 43 :: (x :: y) ++ R)) (a + 1) = 1 := by
        unfold sgnA
        rw [hd1, at_app ha1, if_pos (show (43 :: x :: y ++ R)[0]? = some 43 ∨ (43 :: x :: y ++ R)[0]? = some 45 from Or.inl rfl)]
      have hm : (P ++ (101 :: 43 :: (x :: y) ++ R))[a + 1]? ≠ some 45 := by
        rw [hd1, at_app ha1]; simp
      simp only [hs]
      rw [hd2, drop_app ha2, hrun, ← hd2, if_neg (by simp), if_neg hm, take_app rfl]
      simp; omega
    · have h101 : (101 :: 45 :: x :: y ++ R)[0]? = some 69 ∨ (101 :: 45 :: x :: y ++ R)[0]? = some 101 := Or.inr rfl
      rw [if_pos h101]
      have hd1 : P ++ (101 :: 45 :: (x :: y) ++ R) = (P ++ [101]) ++ (45 :: (x :: y) ++ R) := by simp
      have hd2 : P ++ (101 :: 45 :: (x :: y) ++ R) = (P ++ [101, 45]) ++ ((x :: y) ++ R) := by simp
      have ha1 : a + 1 = (P ++ [101]).length := by rw [List.length_append]; simp; omega
      have ha2 : a + 1 + 1 = (P ++ [101, 45]).length := by rw [List.length_append]; simp; omega
      have hs : sgnA (P ++ (101 :: 45 :: (x :: y) ++ R)) (a + 1) = 1 := by
        unfold sgnA
        rw [hd1, at_app ha1, if_pos (show (45 :: x :: y ++ R)[0]? = some 43 ∨ (45 :: x :: y ++ R)[0]? = some 45 from Or.inr rfl)]
      have hm : (P ++ (101 :: 45 :: (x :: y) ++ R))[a + 1]? = some 45 := by
        rw [hd1, at_app ha1]; simp
      simp only [hs]
      rw [hd2, drop_app ha2, hrun, ← hd2, if_neg (by simp), if_pos hm, take_app rfl]
      simp; omega

/-- what Parse tells of a figure. -/
theorem parseP_text {neg : Bool} {sg W DP F EP R : List UInt8} {e : Int} (hsg : sg = if neg then [45] else []) (hW : AllD W) (hWne : W ≠ []) (hDP : (DP = [] ∧ F = []) ∨ (DP = 46 :: F ∧ AllD F)) (hEP : ExpPart EP e) (hR : Stops R) :
    parseP (sg ++ (W ++ (DP ++ (EP ++ R)))) = (if neg then readP (W ++ F) (W.length + e) % 2 ^ 63 + 2 ^ 63 else readP (W ++ F) (W.length + e), sg.length + W.length + DP.length + EP.length, 0) := by
  obtain ⟨x, y, rfl⟩ : ∃ x y, W = x :: y := by
    cases W with
    | nil => exact absurd rfl hWne
    | cons x y => exact ⟨x, y, rfl⟩
  have hx := dig_not (hW x (by simp))
  -- what the exponent begins with is no digit and no dot
  have hER : ∀ c r, EP ++ R = c :: r → ¬ (48 ≤ c.toNat ∧ c.toNat ≤ 57) ∧ c ≠ 46 := by
    intro c r h
    rcases hEP with ⟨rfl, -⟩ | ⟨X, -, -, h2⟩
    · rw [List.nil_append] at h
      have := hR c r h
      exact ⟨this.1, this.2.1⟩
    · have : c = 101 := by rcases h2 with ⟨rfl, -⟩ | ⟨rfl, -⟩ | ⟨rfl, -⟩ <;> (simp at h; exact h.1.symm)
      subst this
      decide
  have hDN : NoDig (DP ++ (EP ++ R)) := by
    intro c r h
    rcases hDP with ⟨rfl, -⟩ | ⟨rfl, -⟩
    · exact (hER c r h).1
    · simp at h
      obtain ⟨rfl, -⟩ := h
      decide
  have hneg : (sg ++ ((x :: y) ++ (DP ++ (EP ++ R))))[0]? = some 45 ↔ neg = true := by
    rw [hsg]
    cases neg
    · simp; exact hx.2.1
    · simp
  have hs : sgnA (sg ++ ((x :: y) ++ (DP ++ (EP ++ R)))) 0 = sg.length := by
    unfold sgnA
    rw [hsg]
    cases neg
    · rw [if_neg (by simp; exact ⟨hx.1, hx.2.1⟩)]; rfl
    · rw [if_pos (Or.inr (by simp))]; rfl
  have hN : figN (sg ++ ((x :: y) ++ (DP ++ (EP ++ R)))) = (x :: y).length := by
    unfold figN
    rw [hs, drop_app rfl, runL_app hW hDN]
  have hA : figA (sg ++ ((x :: y) ++ (DP ++ (EP ++ R)))) = (sg ++ (x :: y)).length := by
    unfold figA
    rw [hs, hN, List.length_append]
  have hT : sg ++ ((x :: y) ++ (DP ++ (EP ++ R))) = (sg ++ (x :: y)) ++ (DP ++ (EP ++ R)) := by rw [List.append_assoc]
  have hTk : ((sg ++ ((x :: y) ++ (DP ++ (EP ++ R)))).drop (sgnA (sg ++ ((x :: y) ++ (DP ++ (EP ++ R)))) 0)).take (figN (sg ++ ((x :: y) ++ (DP ++ (EP ++ R))))) = x :: y := by
    rw [hs, drop_app rfl, hN, take_app rfl]
  have main : figD (sg ++ ((x :: y) ++ (DP ++ (EP ++ R)))) = (x :: y) ++ F ∧ figE (sg ++ ((x :: y) ++ (DP ++ (EP ++ R)))) = (sg ++ (x :: y) ++ DP).length := by
    rcases hDP with ⟨rfl, rfl⟩ | ⟨rfl, hF⟩
    · have hdot : figDot (sg ++ ((x :: y) ++ ([] ++ (EP ++ R)))) = false := by
        unfold figDot
        rw [hA]
        refine decide_eq_false ?_
        rintro ⟨h, -⟩
        rw [hT, at_app rfl, List.nil_append] at h
        cases hc : EP ++ R with
        | nil => rw [hc] at h; cases h
        | cons c r =>
          rw [hc] at h
          simp at h
          exact (hER c r hc).2 h
      unfold figD figE
      rw [hdot, hTk, hA]
      simp
    · have hM : figM (sg ++ ((x :: y) ++ (46 :: F ++ (EP ++ R)))) = F.length := by
        unfold figM
        rw [hA]
        have : sg ++ ((x :: y) ++ (46 :: F ++ (EP ++ R))) = (sg ++ (x :: y) ++ [46]) ++ (F ++ (EP ++ R)) := by simp
        rw [this, drop_app (by simp; omega), runL_app hF (fun c r h => (hER c r h).1)]
      have hdot : figDot (sg ++ ((x :: y) ++ (46 :: F ++ (EP ++ R)))) = true := by
        unfold figDot
        rw [hA, hN]
        refine decide_eq_true ⟨?_, Nat.lt_of_lt_of_le (by simp) (Nat.le_add_right _ _)⟩
        rw [hT, at_app rfl]; rfl
      unfold figD figE
      rw [hdot, hTk, hA, hM]
      have : sg ++ ((x :: y) ++ (46 :: F ++ (EP ++ R))) = (sg ++ (x :: y) ++ [46]) ++ (F ++ (EP ++ R)) := by simp
      simp only [if_true]
      refine ⟨?_, by simp; omega⟩
      rw [this, drop_app (by simp; omega), take_app rfl]
  obtain ⟨hD, hE⟩ := main
  have hexp := expo_part (P := sg ++ (x :: y) ++ DP) (a := figE (sg ++ ((x :: y) ++ (DP ++ (EP ++ R))))) hE hEP hR
  have hT2 : sg ++ (x :: y) ++ DP ++ (EP ++ R) = sg ++ ((x :: y) ++ (DP ++ (EP ++ R))) := by simp
  rw [hT2] at hexp
  unfold parseP
  rw [hD, if_neg (by simp), hexp, hN, hE]
  dsimp only
  generalize readP ((x :: y) ++ F) (((x :: y).length : Int) + e) = X
  have e1 : (if (sg ++ ((x :: y) ++ (DP ++ (EP ++ R))))[0]? = some 45 then X % 2 ^ 63 + 2 ^ 63 else X) = if neg = true then X % 2 ^ 63 + 2 ^ 63 else X := by
    by_cases hn : neg = true
    · rw [if_pos (hneg.2 hn), if_pos hn]
    · rw [if_neg (fun h => hn (hneg.1 h)), if_neg hn]
  have e2 : (sg ++ (x :: y) ++ DP).length + EP.length = sg.length + (x :: y).length + DP.length + EP.length := by
    rw [List.length_append, List.length_append]
  rw [e1, e2]

end Go.Proofs.YteophaobcebppaaGreatDoor.dg
