/- The walk of galleyref03's reads. Conditions: the lists are short enough to lie in memory. -/
import Derived.Test.YteophaobcebppaaGreatDoorRefG
set_option linter.unusedSimpArgs false
namespace Go.Proofs.YteophaobcebppaaGreatDoor.dg
open Go.RowKit
set_option linter.unusedVariables false

/-- is the rung b (above 0) the nearest to X / B? As the document's answer asks. -/
def readsL (X B b : Nat) : Bool := decide ((2 * X < B * (V b + V (b + 1)) ∨ 2 * X = B * (V b + V (b + 1)) ∧ b % 2 = 0) ∧ (B * (V (b - 1) + V b) < 2 * X ∨ B * (V (b - 1) + V b) = 2 * X ∧ b % 2 = 0))

set_option maxHeartbeats 1600000 in
set_option maxRecDepth 100000 in
theorem rreads_any (vp : Value) (A B b : Nat) (w : World) (hp : RdP w vp A B) (hb0 : 0 < b) (hb : b ≤ INF) (hlA : (wds A).length ≤ 100000) (hlB : (wds B).length ≤ 100000) :
    Calls Tryz.prog 49 #[vp, .int .u64 b] w fun e w' => e = .returned (.bool (readsL (A * 2 ^ 1074) B b)) ∧ Below w.heap.size w w' := by
  have HHA := fun b ww (h : RdP ww vp A B) (hb : b ≤ INF) => against_half vp A B b ww h hb hlA hlB
  obtain ⟨X, hX⟩ : ∃ X, X = A * 2 ^ 1074 := ⟨_, rfl⟩
  simp only [← hX] at HHA ⊢
  have HHA := Lib.hid HHA
  clear hX
  obtain ⟨out, hout⟩ : ∃ out, out = readsL X B b := ⟨_, rfl⟩
  rw [← hout]
  have HOUT := Lib.hid hout
  clear hout
  obtain ⟨va, vb, rfl, ha, hbb⟩ := id hp
  obtain ⟨pa, ca, rfl, hac, ham, hap⟩ := id ha
  obtain ⟨pb, cb, rfl, hbc, hbm, hbp⟩ := id hbb
  have HP := Lib.hid hp
  have hb2 : b ≤ 9218868437227405312 := by rw [← INF_val]; exact hb
  clear ha hbb hap hbp hp hlA hlB
  obtain ⟨c, hc⟩ : ∃ c, b = c + 1 := ⟨b - 1, by omega⟩
  have hcI : ((b : Nat) : Int) - 1 = (c : Int) := by omega
  have hpb := fun ww => parts_any b ww (by omega)
  have hpc := fun ww => parts_any c ww (by omega)
  obtain ⟨g1, g2, g3⟩ := rung_mg b
  have hmgb : ((mg b : Nat) : Int) ≤ 9007199254740992 := by omega
  have hplb : ((pl b : Nat) : Int) ≤ 3000 := by omega
  obtain ⟨k1, k2, k3⟩ := rung_mg c
  have hmgc : ((mg c : Nat) : Int) ≤ 9007199254740992 := by omega
  have hplc : ((pl c : Nat) : Int) ≤ 3000 := by omega
  have hcb : c ≤ INF := by omega
  have HPB := Lib.hid hpb; have HPC := Lib.hid hpc; have HC := Lib.hid hc; have HB := Lib.hid hb; have HCB := Lib.hid hcb
  clear hpb hpc g1 g2 g3 k1 k2 k3 hc hb hcb
  go_enter Tryz.func49, Tryz.ntmps49
  obtain ⟨wb, hwb⟩ : ∃ wb, wb = w.alloc (.cells #[.slice pa (wds A).length ca, .slice pb (wds B).length cb] 79) := ⟨_, rfl⟩
  have hb0' : Below w.heap.size w wb := by rw [hwb]; exact (Below.refl _ _).alloc (Nat.le_refl _) _
  have hrow : wb.heap[w.heap.size]? = some (.cells #[.slice pa (wds A).length ca, .slice pb (wds B).length cb] 79 (0, 0)) := by rw [hwb]; exact heap_alloc_new w _
  have hc0 := cell_of_row wb w.heap.size 0 _ _ _ hrow
  have hc1 := cell_of_row wb w.heap.size 1 _ _ _ hrow
  simp only [List.getElem?_toArray, List.getElem?_cons_zero, List.getElem?_cons_succ] at hc0 hc1
  have hbs : w.heap.size < wb.heap.size := by rw [hwb]; simp
  have HPW := Lib.hid (HP.out.below hb0')
  have HWB := Lib.hid hwb
  clear hwb hrow
  go_upto_region 1 with (fail)
  rw [← HWB.out]
  go_wp2_with fail
  refine (HPB.out _).mono ?_
  rintro e w1 ⟨rfl, rfl⟩
  go_wp2_with fail
  refine (HHA.out b _ HPW.out HB.out).mono ?_
  rintro e w2 ⟨r1, rfl, hst1, hb1⟩
  have cell0 := cell_keep hb1 hc0
  have cell1 := cell_keep hb1 hc1
  have HST1 := Lib.hid hst1
  clear hst1
  go_wp2_with fail
  refine (HPC.out _).mono ?_
  rintro e w3 ⟨rfl, rfl⟩
  go_wp2_with fail
  refine (HHA.out c _ (HPW.out.below hb1) HCB.out).mono ?_
  rintro e w4 ⟨r2, rfl, hst2, hb3⟩
  have HST2 := Lib.hid hst2
  clear hst2
  have hbf : Below w.heap.size w w4 := hb0'.trans ((Below.seq hb1 hb3).mono hb0'.size)
  have hiff : out = true ↔ ((r1 < 0 ∨ r1 = 0 ∧ b % 2 = 0) ∧ (0 < r2 ∨ r2 = 0 ∧ b % 2 = 0)) := by
    rw [HOUT.out]
    unfold readsL
    refine decide_eq_true_iff.trans ?_
    have e : b - 1 = c := by have := HC.out; omega
    have e2 : c + 1 = b := HC.out.symm
    have s1 := HST1.out; have s2 := HST2.out
    rw [e2] at s2
    rw [e]
    have a1 := s1.1; have a2 := s1.2; have b1 := s2.1; have b2 := s2.2
    generalize B * (V b + V (b + 1)) = Y1 at *
    generalize B * (V c + V b) = Y2 at *
    constructor
    · rintro ⟨x, y⟩
      exact ⟨by omega, by omega⟩
    · rintro ⟨x, y⟩
      exact ⟨by omega, by omega⟩
  have hcases1 : r1 < 0 ∨ r1 = 0 ∨ 0 < r1 := by omega
  have hcases2 : 0 < r2 ∨ r2 = 0 ∨ r2 < 0 := by omega
  have hcases3 : ((b : Nat) : Int) % 2 = 0 ∨ ((b : Nat) : Int) % 2 = 1 := by omega
  clear HOUT
  cases out
  · have hP : ¬ ((r1 < 0 ∨ r1 = 0 ∧ b % 2 = 0) ∧ (0 < r2 ∨ r2 = 0 ∧ b % 2 = 0)) := fun h => Bool.noConfusion (hiff.2 h)
    clear hiff
    rcases hcases3 with h3 | h3 <;> rcases hcases1 with h1 | h1 | h1 <;> rcases hcases2 with h2 | h2 | h2
    all_goals try (exfalso; omega)
    all_goals clear hP
    all_goals go_wp2_with fail
    all_goals go_ret
    all_goals refine ⟨?_, hbf⟩
    all_goals first | rfl | (simp; omega)
  · have hP := hiff.1 rfl
    clear hiff
    rcases hcases3 with h3 | h3 <;> rcases hcases1 with h1 | h1 | h1 <;> rcases hcases2 with h2 | h2 | h2
    all_goals try (exfalso; omega)
    all_goals clear hP
    all_goals go_wp2_with fail
    all_goals go_ret
    all_goals refine ⟨?_, hbf⟩
    all_goals first | rfl | (simp; omega)

end Go.Proofs.YteophaobcebppaaGreatDoor.dg
