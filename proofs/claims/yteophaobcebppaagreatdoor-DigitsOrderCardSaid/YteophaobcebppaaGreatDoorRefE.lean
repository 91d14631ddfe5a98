/- The walks of galleyref03.parts, value, against. Conditions: the lists are short enough to lie in memory. -/
import Derived.Test.YteophaobcebppaaGreatDoorRefD
import Derived.Test.YteophaobcebppaaGreatDoorBit
set_option linter.unusedSimpArgs false
namespace Go.Proofs.YteophaobcebppaaGreatDoor.dg
open Go.RowKit
set_option linter.unusedVariables false

theorem mod52_and (b : Nat) (hb : b < B64) : bits .and .u64 (b : Int) 4503599627370495 = ((b % 2 ^ 52 : Nat) : Int) := by
  have := bits_and_nat b 4503599627370495 hb (by rw [B64_def]; omega)
  rw [show (4503599627370495 : Nat) = 2 ^ 52 - 1 from rfl, Nat.and_two_pow_sub_one_eq_mod] at this
  exact this

theorem parts_any (b : Nat) (w : World) (hb : b < 2 ^ 63) :
    Calls Tryz.prog 87 #[.int .u64 b] w fun e w' => e = .returned (.tuple #[.int .u64 (mg b : Nat), .int .i64 (((pl b : Nat) : Int) - 1074)]) ∧ w = w' := by
  have hbB : b < B64 := by rw [B64_def]; omega
  have hand := mod52_and b hbB
  obtain ⟨f, hf⟩ : ∃ f, f = b % 2 ^ 52 := ⟨_, rfl⟩
  obtain ⟨E, hE⟩ : ∃ E, E = b / 2 ^ 52 := ⟨_, rfl⟩
  have hEI : (b : Int) / 4503599627370496 = (E : Int) := by omega
  have hE1 : E ≤ 2047 := by omega
  rw [← hf] at hand
  by_cases h0 : E = 0
  · have hm : mg b = f := by unfold mg; rw [if_pos (by omega)]; omega
    have hp : pl b = 0 := by unfold pl; omega
    rw [hm, hp]
    have H0 := Lib.hid h0
    have he0 : (E : Int) = 0 := by omega
    clear h0 hm hp hf hE
    go_enter Tryz.func87, Tryz.ntmps87
    go_wp2_with fail
    go_ret2
    exact ⟨rfl, rfl⟩
  · have hm : mg b = 2 ^ 52 + f := by unfold mg; rw [if_neg (by omega), hf]
    have hp : pl b = E - 1 := by unfold pl; rw [hE]
    rw [hm, hp]
    have hor := or_hi 52 f 1 (by omega) (by rw [B64_def]; omega) (by rw [B64_def]; omega)
    rw [Nat.mul_one] at hor
    have hor2 : bits .or .u64 (f : Int) 4503599627370496 = ((2 ^ 52 + f : Nat) : Int) := hor
    obtain ⟨g, hg⟩ : ∃ g : Nat, g = 2 ^ 52 + f := ⟨_, rfl⟩
    rw [← hg] at hor2
    rw [← hg]
    have he0 : ¬ (E : Int) = 0 := by omega
    have hres : (((E - 1 : Nat)) : Int) - 1074 = (E : Int) - 1075 := by omega
    rw [hres]
    clear h0 hm hp hf hE hor hg hres
    go_enter Tryz.func87, Tryz.ntmps87
    go_wp2_with fail
    go_ret2
    exact ⟨rfl, rfl⟩

theorem row2_set {w : World} {g : Nat} {t : TypeId} {x y : Value} (h : w.heap[g]? = some (.cells #[x, y] t (0, 0))) (a b : Value) :
    ((w.setCell ⟨g, 0, none⟩ a).setCell ⟨g, 1, none⟩ b).heap[g]? = some (.cells #[a, b] t (0, 0)) := by
  have h1 := heap_setCell_same w g 0 _ t a h
  exact heap_setCell_same _ g 1 _ t b h1

/-- a row of words is no row of two slices: a store there does not turn it. -/
theorem rd32_row2 {w : World} {g : Nat} {t : TypeId} {p q : Option Addr} {n m c d : Nat} (h : w.heap[g]? = some (.cells #[.slice p n c, .slice q m d] t (0, 0))) {v : Value} {l : List Nat} (hv : Rd32 w v l) (j : Nat) (u : Value) :
    Rd32 (w.setCell ⟨g, j, none⟩ u) v l := by
  obtain ⟨pp, cap, rfl, h1, h2, h3⟩ := hv
  refine ⟨pp, cap, rfl, h1, h2, fun hl => ?_⟩
  obtain ⟨b, off, rfl, hc⟩ := h3 hl
  refine ⟨b, off, rfl, fun i hi => ?_⟩
  have hne : b ≠ g := by
    rintro rfl
    have := hc i hi
    rw [cell_of_row w b (off + i) _ _ _ h] at this
    rcases hk : off + i with _ | _ | k
    · rw [hk] at this; simp at this
    · rw [hk] at this; simp at this
    · rw [hk] at this; simp at this
  rw [World.cell?_of_block (w := w) (a := ⟨b, off + i, none⟩) (Below.heap_setCell _ _ _ _ hne)]
  exact hc i hi

/-- a true number in memory: a whole one by another one. -/
def RdP (w : World) (v : Value) (A B : Nat) : Prop := ∃ va vb, v = .agg #[va, vb] ∧ Rd32 w va (wds A) ∧ Rd32 w vb (wds B)

set_option maxHeartbeats 800000 in
theorem value_any (vc : Value) (C : Nat) (s : Int) (w : World) (hc : Rd32 w vc (wds C)) (hl : (wds C).length ≤ 100000) (h0 : -100000 ≤ s) (h1 : s ≤ 100000) :
    Calls Tryz.prog 47 #[vc, .int .i64 s] w fun e w' => ∃ v, e = .returned v ∧ RdP w' v (C * 10 ^ s.toNat) (10 ^ (-s).toNat) ∧ Below w.heap.size w w' := by
  by_cases hs : 0 ≤ s
  · have HC := Lib.hid hc
    clear hc
    go_enter Tryz.func47, Tryz.ntmps47
    go_wp2_with fail
    have hb0 : Below w.heap.size w (w.alloc (.cells #[.slice none 0 0, .slice none 0 0] 79)) := (Below.refl _ _).alloc (Nat.le_refl _) _
    refine (rtens_any vc C s _ (HC.out.below hb0) (by omega) (by omega)).mono ?_
    rintro e w1 ⟨va, rfl, hva, hb1⟩
    go_wp2_with fail
    refine (rof_any 1 _ (by omega) (by rw [B64_def]; omega)).mono ?_
    rintro e w2 ⟨vb, rfl, hvb, hb2⟩
    have hva2 := hva.below hb2
    have hbb := Below.seq hb1 hb2
    have hrow : w2.heap[w.heap.size]? = some (.cells #[.slice none 0 0, .slice none 0 0] 79 (0, 0)) := by
      rw [hbb.block w.heap.size (by simp)]
      exact heap_alloc_new w _
    have HROW := Lib.hid hrow
    obtain ⟨pa, ca, rfl, hac, ham, hap⟩ := id hva2
    obtain ⟨pb, cb, rfl, hbc, hbm, hbp⟩ := id hvb
    have HVA := Lib.hid hva2
    have HVB := Lib.hid hvb
    clear hva2 hvb hap hbp hrow hva
    have f0 := frozen_of_row w2 w.heap.size 0 _ _ HROW.out
    have f1 := frozen_of_row w2 w.heap.size 1 _ _ HROW.out
    have c0 := cell_of_row w2 w.heap.size 0 _ _ _ HROW.out
    have c1 := cell_of_row w2 w.heap.size 1 _ _ _ HROW.out
    simp only [List.getElem?_toArray, List.getElem?_cons_zero, List.getElem?_cons_succ] at c0 c1
    go_wp2_with fail
    have hw0 : (10 : Nat) ^ (-s).toNat = 1 := by rw [show (-s).toNat = 0 from by omega, Nat.pow_zero]
    have hset := row2_set HROW.out (.slice pa (wds (C * 10 ^ s.toNat)).length ca) (.slice pb (wds 1).length cb)
    refine bodyPost_ret (v := .agg #[.slice pa (wds (C * 10 ^ s.toNat)).length ca, .slice pb (wds 1).length cb]) ?hr rfl ⟨_, rfl, ⟨_, _, rfl, ?_, ?_⟩, ?_⟩
    case hr => exact results_cell_row (p := 4) (ty := 79) (by rfl) _ _ w.heap.size _ _ _ _ (by rfl) hset Tryz.underlying79 (by rfl) (by kernel_rfl)
    · exact rd32_row2 (heap_setCell_same w2 w.heap.size 0 _ _ _ HROW.out) (rd32_row2 HROW.out HVA.out 0 _) 1 _
    · rw [hw0]
      exact rd32_row2 (heap_setCell_same w2 w.heap.size 0 _ _ _ HROW.out) (rd32_row2 HROW.out HVB.out 0 _) 1 _
    · exact ((Below.trans hb0 (hbb.mono (by simp))).setCell (Nat.le_refl _) _).setCell (Nat.le_refl _) _
  · have HC := Lib.hid hc
    clear hc
    go_enter Tryz.func47, Tryz.ntmps47
    go_wp2_with fail
    have hb0 : Below w.heap.size w (w.alloc (.cells #[.slice none 0 0, .slice none 0 0] 79)) := (Below.refl _ _).alloc (Nat.le_refl _) _
    refine (rof_any 1 _ (by omega) (by rw [B64_def]; omega)).mono ?_
    rintro e w1 ⟨vo, rfl, hvo, hb1⟩
    go_wp2_with fail
    refine (rtens_any vo 1 (-s) _ hvo (by omega) (by rw [wds_one (by omega) (by rw [B32_def]; omega)]; decide)).mono ?_
    rintro e w2 ⟨vb, rfl, hvb, hb2⟩
    rw [Nat.one_mul] at hvb
    have hbb := Below.seq hb1 hb2
    have hva2 := (HC.out.below hb0).below hbb
    have hrow : w2.heap[w.heap.size]? = some (.cells #[.slice none 0 0, .slice none 0 0] 79 (0, 0)) := by
      rw [hbb.block w.heap.size (by simp)]
      exact heap_alloc_new w _
    have HROW := Lib.hid hrow
    obtain ⟨pa, ca, rfl, hac, ham, hap⟩ := id hva2
    obtain ⟨pb, cb, rfl, hbc, hbm, hbp⟩ := id hvb
    have HVA := Lib.hid hva2
    have HVB := Lib.hid hvb
    clear hva2 hvb hap hbp hrow hvo
    have f0 := frozen_of_row w2 w.heap.size 0 _ _ HROW.out
    have f1 := frozen_of_row w2 w.heap.size 1 _ _ HROW.out
    have c0 := cell_of_row w2 w.heap.size 0 _ _ _ HROW.out
    have c1 := cell_of_row w2 w.heap.size 1 _ _ _ HROW.out
    simp only [List.getElem?_toArray, List.getElem?_cons_zero, List.getElem?_cons_succ] at c0 c1
    go_wp2_with fail
    have hw0 : (10 : Nat) ^ s.toNat = 1 := by rw [show s.toNat = 0 from by omega, Nat.pow_zero]
    have hset := row2_set HROW.out (.slice pa (wds C).length ca) (.slice pb (wds (10 ^ (-s).toNat)).length cb)
    refine bodyPost_ret (v := .agg #[.slice pa (wds C).length ca, .slice pb (wds (10 ^ (-s).toNat)).length cb]) ?hr rfl ⟨_, rfl, ⟨_, _, rfl, ?_, ?_⟩, ?_⟩
    case hr => exact results_cell_row (p := 4) (ty := 79) (by rfl) _ _ w.heap.size _ _ _ _ (by rfl) hset Tryz.underlying79 (by rfl) (by kernel_rfl)
    · rw [hw0, Nat.mul_one]
      exact rd32_row2 (heap_setCell_same w2 w.heap.size 0 _ _ _ HROW.out) (rd32_row2 HROW.out HVA.out 0 _) 1 _
    · exact rd32_row2 (heap_setCell_same w2 w.heap.size 0 _ _ _ HROW.out) (rd32_row2 HROW.out HVB.out 0 _) 1 _
    · exact ((Below.trans hb0 (hbb.mono (by simp))).setCell (Nat.le_refl _) _).setCell (Nat.le_refl _) _

end Go.Proofs.YteophaobcebppaaGreatDoor.dg
