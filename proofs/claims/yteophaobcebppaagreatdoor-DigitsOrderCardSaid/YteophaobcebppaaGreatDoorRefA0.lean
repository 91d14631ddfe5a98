/- Whole numbers in memory as slices of words of 32 bits. Conditions: none beyond what each says. -/
import Derived.Test.YteophaobcebppaaGreatDoorWords32
import Derived.Test.YteophaobcebppaaGreatDoorRatio
set_option linter.unusedSimpArgs false
namespace Go.Proofs.YteophaobcebppaaGreatDoor.dg
open Go.RowKit
set_option linter.unusedVariables false

/-- a slice of uint32 that reads as a list of numbers. -/
def Rd32 (w : World) (v : Value) (l : List Nat) : Prop :=
  ∃ p cap, v = .slice p l.length cap ∧ l.length ≤ cap ∧ cap ≤ maxLen ∧
    (l ≠ [] → ∃ b off, p = some ⟨b, off, none⟩ ∧ ∀ i, i < l.length → w.cell? ⟨b, off + i, none⟩ = some (.int .u32 ((nth l i : Nat) : Int)))

theorem Rd32.nil (w : World) : Rd32 w (.slice none 0 0) [] := ⟨none, 0, rfl, by simp, by simp [maxLen], fun h => absurd rfl h⟩

theorem Rd32.below {w w' : World} {v : Value} {l : List Nat} (h : Rd32 w v l) (hb : Below w.heap.size w w') : Rd32 w' v l := by
  obtain ⟨p, cap, rfl, h1, h2, h3⟩ := h
  refine ⟨p, cap, rfl, h1, h2, fun hne => ?_⟩
  obtain ⟨b, off, hp, hc⟩ := h3 hne
  refine ⟨b, off, hp, fun i hi => ?_⟩
  have := hc i hi
  rw [hb.cell (World.block_lt_of_cell? w _ this)]; exact this

theorem Rd32.take {w : World} {p : Option Addr} {cap : Nat} {l : List Nat} (h : Rd32 w (.slice p l.length cap) l) (k : Nat) (hk : k ≤ l.length) : Rd32 w (.slice p k cap) (l.take k) := by
  obtain ⟨p', cap', e, h1, h2, h3⟩ := h
  simp only [Value.slice.injEq] at e
  obtain ⟨rfl, -, rfl⟩ := e
  have hl : (l.take k).length = k := by rw [List.length_take]; omega
  refine ⟨p, cap, by rw [hl], by omega, h2, fun hne => ?_⟩
  obtain ⟨b, off, hp, hc⟩ := h3 (by rintro rfl; simp at hne)
  refine ⟨b, off, hp, fun i hi => ?_⟩
  rw [hc i (by omega), nth_take (by omega)]

theorem vl_lt_of_top {a b : List Nat} (ha : Sml a) (hl : a.length = b.length) {k : Nat} (hk : k < a.length) (hd : a.drop (k + 1) = b.drop (k + 1)) (hlt : nth a k < nth b k) : vl a < vl b := by
  have e1 : a = a.take (k + 1) ++ a.drop (k + 1) := (List.take_append_drop _ _).symm
  have e2 : b = b.take (k + 1) ++ b.drop (k + 1) := (List.take_append_drop _ _).symm
  rw [e1, e2, vl_append, vl_append, ← hd, List.length_take, List.length_take, ← hl, vl_take_succ hk, vl_take_succ (by omega)]
  have h1 := vl_lt (ha.take k)
  rw [List.length_take, Nat.min_eq_left (by omega)] at h1
  have h2 : B32 ^ k * (nth a k + 1) ≤ B32 ^ k * nth b k := Nat.mul_le_mul_left _ hlt
  rw [Nat.mul_add] at h2
  omega

theorem wds_len_lt {A B : Nat} (h : (wds A).length < (wds B).length) : A < B := by
  have hB : B ≠ 0 := by rintro rfl; rw [wds_zero] at h; simp at h
  have h1 := wds_ge hB
  have h2 := vl_lt (sml_wds A)
  rw [vl_wds] at h2
  have h3 : B32 ^ (wds A).length ≤ B32 ^ ((wds B).length - 1) := Nat.pow_le_pow_right B32_pos (by omega)
  omega

theorem wds_len_of_lt {n k : Nat} (h : n < B32 ^ k) : (wds n).length ≤ k := wds_length_lt h

theorem lt_pow_wds (n : Nat) : n < B32 ^ (wds n).length := by
  have := vl_lt (sml_wds n); rw [vl_wds] at this; exact this

theorem Rd32.drew {w : World} {v : Value} {l : List Nat} (h : Rd32 w v l) : Rd32 w.drew v l := h
theorem Rd32.drewN {w : World} {v : Value} {l : List Nat} (h : Rd32 w v l) (n : Nat) : Rd32 (w.drewN n) v l := h

end Go.Proofs.YteophaobcebppaaGreatDoor.dg
