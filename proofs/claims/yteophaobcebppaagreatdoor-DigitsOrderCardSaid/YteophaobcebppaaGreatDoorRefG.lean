/- The walks of galleyref03's nearest, reads. Conditions: the lists are short enough to lie in memory. -/
import Derived.Test.YteophaobcebppaaGreatDoorRefF
set_option linter.unusedSimpArgs false
namespace Go.Proofs.YteophaobcebppaaGreatDoor.dg
open Go.RowKit
set_option linter.unusedVariables false

theorem rung_mg (r : Nat) : r = pl r * 2 ^ 52 + mg r ∧ mg r < 2 ^ 53 ∧ (0 < pl r → 2 ^ 52 ≤ mg r) := by
  unfold mg pl; split <;> omega
theorem V_next (r : Nat) : V (r + 1) = (mg r + 1) * 2 ^ pl r := by
  obtain ⟨h1, h2, h3⟩ := rung_mg r
  conv => lhs; rw [h1, Nat.add_assoc]
  exact V_rung _ _ (by omega) (fun h => by have := h3 h; omega)
theorem V_half (r : Nat) : V r + V (r + 1) = (2 * mg r + 1) * 2 ^ pl r := by
  rw [V_next, V_mg, ← Nat.add_mul]; congr 1; omega

theorem near_bisect {X B lo r : Nat} (hB : 0 < B) (h1 : B * V lo ≤ X) (h2 : X < B * V (lo + 1) ∨ lo + 1 = INF) (hlo : lo < INF)
    (h3 : (r = lo ∧ 2 * X ≤ B * (V lo + V (lo + 1)) ∧ (2 * X = B * (V lo + V (lo + 1)) → lo % 2 = 0)) ∨ (r = lo + 1 ∧ B * (V lo + V (lo + 1)) ≤ 2 * X ∧ (2 * X = B * (V lo + V (lo + 1)) → lo % 2 = 1))) : r = rd X B := by
  refine near_rd hB ?_
  rcases h3 with ⟨rfl, a, b⟩ | ⟨rfl, a, b⟩
  · refine ⟨by omega, fun h0 => ?_, fun _ => ⟨a, b⟩⟩
    have h4 : V (r - 1) < V r := V_lt (by omega)
    have h5 : B * (V (r - 1) + V r) < B * (V r + V r) := Nat.mul_lt_mul_of_pos_left (by omega) hB
    rw [Nat.mul_add B (V r)] at h5
    exact ⟨by omega, fun e => by omega⟩
  · refine ⟨by omega, fun h0 => ?_, fun h => ?_⟩
    · rw [Nat.add_sub_cancel]
      exact ⟨a, fun e => by have := b e.symm; omega⟩
    · rcases h2 with h2 | h2
      · have h4 : V (lo + 1) < V (lo + 1 + 1) := V_lt (by omega)
        have h5 : B * (V (lo + 1) + V (lo + 1)) < B * (V (lo + 1) + V (lo + 1 + 1)) := Nat.mul_lt_mul_of_pos_left (by omega) hB
        rw [Nat.mul_add B (V (lo + 1)) (V (lo + 1))] at h5
        exact ⟨by omega, fun e => by omega⟩
      · omega

/-- how a number and m times two to the power k - j stand. -/
theorem stand_scale {r : Int} {A B m p j : Nat} (h : Stand r (A * 2 ^ (-((p : Int) - j)).toNat) (B * m * 2 ^ ((p : Int) - j).toNat)) : Stand r (A * 2 ^ j) (B * (m * 2 ^ p)) := by
  obtain ⟨s, hs⟩ : ∃ s, s = (-((p : Int) - j)).toNat := ⟨_, rfl⟩
  obtain ⟨t, ht⟩ : ∃ t, t = ((p : Int) - j).toNat := ⟨_, rfl⟩
  rw [← hs, ← ht] at h
  have key : ∀ u, Stand r (A * 2 ^ s) (B * m * 2 ^ t) → Stand r (A * 2 ^ s * 2 ^ u) (B * m * 2 ^ t * 2 ^ u) := by
    intro u ⟨a, b⟩
    have hu := Nat.two_pow_pos u
    exact ⟨a.trans (Nat.mul_lt_mul_right hu).symm, b.trans (Nat.mul_lt_mul_right hu).symm⟩
  have h2 := key (j - s) h
  rw [Nat.mul_assoc A, ← Nat.pow_add, Nat.mul_assoc (B * m), ← Nat.pow_add, Nat.mul_assoc B] at h2
  rw [show s + (j - s) = j from by omega, show t + (j - s) = p from by omega] at h2
  exact h2

theorem stand_twice {r : Int} {A B m p j : Nat} (h : Stand r (A * 2 ^ (-((p : Int) - j - 1)).toNat) (B * m * 2 ^ ((p : Int) - j - 1).toNat)) : Stand r (2 * (A * 2 ^ j)) (B * (m * 2 ^ p)) := by
  have e : (p : Int) - j - 1 = (p : Int) - ((j + 1 : Nat) : Int) := by omega
  rw [e] at h
  have := stand_scale h
  rw [Nat.pow_succ, ← Nat.mul_assoc, Nat.mul_comm (A * 2 ^ j) 2] at this
  exact this

/-- against, at a rung and at what lies half way to the next one. -/
theorem against_rung (vp : Value) (A B b : Nat) (w : World) (hp : RdP w vp A B) (hb : b ≤ INF) (hlA : (wds A).length ≤ 100000) (hlB : (wds B).length ≤ 100000) :
    Calls Tryz.prog 88 #[vp, .int .u64 (mg b : Nat), .int .i64 (((pl b : Nat) : Int) - 1074)] w fun e w' => ∃ r : Int, e = .returned (.int .i64 r) ∧ Stand r (A * 2 ^ 1074) (B * V b) ∧ Below w.heap.size w w' := by
  obtain ⟨h1, h2, h3⟩ := rung_mg b
  have hb2 := INF_val
  obtain ⟨j, hj⟩ : ∃ j : Nat, j = 1074 := ⟨_, rfl⟩
  have hjI : (1074 : Int) = (j : Int) := by omega
  rw [hjI, ← hj]
  refine (against_any vp A B (mg b) ((pl b : Int) - j) w hp (by rw [B64_def]; omega) (by omega) (by omega) hlA hlB).mono ?_
  rintro e w' ⟨r, rfl, hs, hbl⟩
  refine ⟨r, rfl, ?_, hbl⟩
  rw [V_mg]
  exact stand_scale hs

theorem against_half (vp : Value) (A B b : Nat) (w : World) (hp : RdP w vp A B) (hb : b ≤ INF) (hlA : (wds A).length ≤ 100000) (hlB : (wds B).length ≤ 100000) :
    Calls Tryz.prog 88 #[vp, .int .u64 (2 * ((mg b : Nat) : Int) + 1), .int .i64 (((pl b : Nat) : Int) - 1074 - 1)] w fun e w' => ∃ r : Int, e = .returned (.int .i64 r) ∧ Stand r (2 * (A * 2 ^ 1074)) (B * (V b + V (b + 1))) ∧ Below w.heap.size w w' := by
  obtain ⟨h1, h2, h3⟩ := rung_mg b
  have hb2 := INF_val
  obtain ⟨j, hj⟩ : ∃ j : Nat, j = 1074 := ⟨_, rfl⟩
  have hjI : (1074 : Int) = (j : Int) := by omega
  rw [hjI, ← hj]
  have hc := against_any vp A B (2 * mg b + 1) ((pl b : Int) - j - 1) w hp (by rw [B64_def]; omega) (by omega) (by omega) hlA hlB
  have e1 : ((2 * mg b + 1 : Nat) : Int) = 2 * ((mg b : Nat) : Int) + 1 := by omega
  rw [e1] at hc
  refine hc.mono ?_
  rintro e w' ⟨r, rfl, hs, hbl⟩
  refine ⟨r, rfl, ?_, hbl⟩
  rw [V_half]
  exact stand_twice hs

end Go.Proofs.YteophaobcebppaaGreatDoor.dg
