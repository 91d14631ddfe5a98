/- DigitsNames: the walk of its rows. Conditions: the table of powers of ten reads as it is laid. -/
import Derived.Test.YteophaobcebppaaGreatDoorAwake
set_option linter.unusedSimpArgs false
namespace Go.Proofs.YteophaobcebppaaGreatDoor.dg
open Go.RowKit
set_option linter.unusedVariables false

theorem evn_parse0 : parseP [57, 48, 48, 55, 49, 57, 57, 50, 53, 52, 55, 52, 48, 57, 57, 51, 46, 48, 48, 48, 48, 48, 48, 49] = (4845873199050653697, 24, 0) := by decide +kernel
theorem evn_parse1 : parseP [50, 46, 52, 55, 48, 51, 50, 56, 50, 50, 57, 50, 48, 54, 50, 51, 50, 55, 101, 45, 51, 50, 52] = (0, 23, 0) := by decide +kernel
theorem evn_parse2 : parseP [50, 46, 52, 55, 48, 51, 50, 56, 50, 50, 57, 50, 48, 54, 50, 51, 50, 56, 101, 45, 51, 50, 52] = (1, 23, 0) := by decide +kernel
theorem evn_parse3 : parseP [49, 46, 55, 57, 55, 54, 57, 51, 49, 51, 52, 56, 54, 50, 51, 49, 53, 57, 101, 51, 48, 56] = (9218868437227405312, 22, 0) := by decide +kernel
theorem evn_short0 : IsShort 4517329193108106637 [49] (-5) :=
  isShort_of (-6) 1 10 (by decide +kernel) (by decide +kernel) (by omega) (by omega) (by decide +kernel) (by decide +kernel) (by simp [Lib.decDigits, Lib.trimRightB]) (by simp [Lib.decDigits])
theorem evn_print0 : IsPrint 4517329193108106637 [48, 46, 48, 48, 48, 48, 48, 49] := by
  refine Or.inr ⟨by decide +kernel, [48, 46, 48, 48, 48, 48, 48, 49], Or.inr (Or.inr ⟨by decide, by decide +kernel, [49], -5, evn_short0, ?_⟩), by decide⟩
  simp [fmtL, Lib.decDigits]
theorem evn_short1 : IsShort 4502148214488346440 [49] (-6) :=
  isShort_of (-7) 1 10 (by decide +kernel) (by decide +kernel) (by omega) (by omega) (by decide +kernel) (by decide +kernel) (by simp [Lib.decDigits, Lib.trimRightB]) (by simp [Lib.decDigits])
theorem evn_print1 : IsPrint 4502148214488346440 [49, 101, 45, 55] := by
  refine Or.inr ⟨by decide +kernel, [49, 101, 45, 55], Or.inr (Or.inr ⟨by decide, by decide +kernel, [49], -6, evn_short1, ?_⟩), by decide⟩
  simp [fmtL, Lib.decDigits]
theorem evn_short2 : IsShort 9218868437227405311 [49, 55, 57, 55, 54, 57, 51, 49, 51, 52, 56, 54, 50, 51, 49, 53, 55] (309) :=
  isShort_of (309) 17 17976931348623157 (by decide +kernel) (by decide +kernel) (by omega) (by omega) (by decide +kernel) (by decide +kernel) (by simp [Lib.decDigits, Lib.trimRightB]) (by simp [Lib.decDigits])
theorem evn_print2 : IsPrint 9218868437227405311 [49, 46, 55, 57, 55, 54, 57, 51, 49, 51, 52, 56, 54, 50, 51, 49, 53, 55, 101, 43, 51, 48, 56] := by
  refine Or.inr ⟨by decide +kernel, [49, 46, 55, 57, 55, 54, 57, 51, 49, 51, 52, 56, 54, 50, 51, 49, 53, 55, 101, 43, 51, 48, 56], Or.inr (Or.inr ⟨by decide, by decide +kernel, [49, 55, 57, 55, 54, 57, 51, 49, 51, 52, 56, 54, 50, 51, 49, 53, 55], 309, evn_short2, ?_⟩), by decide⟩
  simp [fmtL, Lib.decDigits]
theorem evn_short3 : IsShort 4746794007248510976 [50, 49, 52, 55, 52, 56, 51, 54, 52, 56, 48, 48, 51, 57, 48, 54, 50] (10) :=
  isShort_of (10) 17 21474836480039062 (by decide +kernel) (by decide +kernel) (by omega) (by omega) (by decide +kernel) (by decide +kernel) (by simp [Lib.decDigits, Lib.trimRightB]) (by simp [Lib.decDigits])
theorem evn_print3 : IsPrint 4746794007248510976 [50, 49, 52, 55, 52, 56, 51, 54, 52, 56, 46, 48, 48, 51, 57, 48, 54, 50] := by
  refine Or.inr ⟨by decide +kernel, [50, 49, 52, 55, 52, 56, 51, 54, 52, 56, 46, 48, 48, 51, 57, 48, 54, 50], Or.inr (Or.inr ⟨by decide, by decide +kernel, [50, 49, 52, 55, 52, 56, 51, 54, 52, 56, 48, 48, 51, 57, 48, 54, 50], 10, evn_short3, ?_⟩), by decide⟩
  simp [fmtL, Lib.decDigits]
theorem evn_short4 : IsShort 4907451598986591450 [49, 50, 51, 52, 53, 54, 55, 56, 57, 48, 49, 50, 51, 52, 53, 54, 56] (21) :=
  isShort_of (21) 17 12345678901234568 (by decide +kernel) (by decide +kernel) (by omega) (by omega) (by decide +kernel) (by decide +kernel) (by simp [Lib.decDigits, Lib.trimRightB]) (by simp [Lib.decDigits])
theorem evn_print4 : IsPrint 4907451598986591450 [49, 50, 51, 52, 53, 54, 55, 56, 57, 48, 49, 50, 51, 52, 53, 54, 56, 48, 48, 48, 48] := by
  refine Or.inr ⟨by decide +kernel, [49, 50, 51, 52, 53, 54, 55, 56, 57, 48, 49, 50, 51, 52, 53, 54, 56, 48, 48, 48, 48], Or.inr (Or.inr ⟨by decide, by decide +kernel, [49, 50, 51, 52, 53, 54, 55, 56, 57, 48, 49, 50, 51, 52, 53, 54, 56], 21, evn_short4, ?_⟩), by decide⟩
  simp [fmtL, Lib.decDigits]

theorem gt_top_inf : (FloatKind.f64.format.order 9218868437227405312 9218868437227405311 == some Ordering.gt) = true := by
  have hI := INF_val
  rw [rung_order (by omega) (by omega), cmp_gt (by omega)]; rfl

set_option maxHeartbeats 3200000 in
set_option maxRecDepth 100000 in
theorem names_any (w : World) (htab : Tab w) :
    Calls Tryz.prog 3 #[] w fun e w' => e = .returned (.bool true) ∧ Below w.heap.size w w' := by
  have hI := INF_val
  have hp0 := fun w => parse_any ⟨#[57, 48, 48, 55, 49, 57, 57, 50, 53, 52, 55, 52, 48, 57, 57, 51, 46, 48, 48, 48, 48, 48, 48, 49]⟩ w (by decide)
  simp only [show (⟨#[57, 48, 48, 55, 49, 57, 57, 50, 53, 52, 55, 52, 48, 57, 57, 51, 46, 48, 48, 48, 48, 48, 48, 49]⟩ : ByteArray).data.toList = [57, 48, 48, 55, 49, 57, 57, 50, 53, 52, 55, 52, 48, 57, 57, 51, 46, 48, 48, 48, 48, 48, 48, 49] from rfl, evn_parse0] at hp0
  have HP0 := Lib.hid hp0
  have hp1 := fun w => parse_any ⟨#[50, 46, 52, 55, 48, 51, 50, 56, 50, 50, 57, 50, 48, 54, 50, 51, 50, 55, 101, 45, 51, 50, 52]⟩ w (by decide)
  simp only [show (⟨#[50, 46, 52, 55, 48, 51, 50, 56, 50, 50, 57, 50, 48, 54, 50, 51, 50, 55, 101, 45, 51, 50, 52]⟩ : ByteArray).data.toList = [50, 46, 52, 55, 48, 51, 50, 56, 50, 50, 57, 50, 48, 54, 50, 51, 50, 55, 101, 45, 51, 50, 52] from rfl, evn_parse1] at hp1
  have HP1 := Lib.hid hp1
  have hp2 := fun w => parse_any ⟨#[50, 46, 52, 55, 48, 51, 50, 56, 50, 50, 57, 50, 48, 54, 50, 51, 50, 56, 101, 45, 51, 50, 52]⟩ w (by decide)
  simp only [show (⟨#[50, 46, 52, 55, 48, 51, 50, 56, 50, 50, 57, 50, 48, 54, 50, 51, 50, 56, 101, 45, 51, 50, 52]⟩ : ByteArray).data.toList = [50, 46, 52, 55, 48, 51, 50, 56, 50, 50, 57, 50, 48, 54, 50, 51, 50, 56, 101, 45, 51, 50, 52] from rfl, evn_parse2] at hp2
  have HP2 := Lib.hid hp2
  have hp3 := fun w => parse_any ⟨#[49, 46, 55, 57, 55, 54, 57, 51, 49, 51, 52, 56, 54, 50, 51, 49, 53, 57, 101, 51, 48, 56]⟩ w (by decide)
  simp only [show (⟨#[49, 46, 55, 57, 55, 54, 57, 51, 49, 51, 52, 56, 54, 50, 51, 49, 53, 57, 101, 51, 48, 56]⟩ : ByteArray).data.toList = [49, 46, 55, 57, 55, 54, 57, 51, 49, 51, 52, 56, 54, 50, 51, 49, 53, 57, 101, 51, 48, 56] from rfl, evn_parse3] at hp3
  have HP3 := Lib.hid hp3
  have o1 := same_order 4845873199050653697 (by omega)
  have o2 := same_order 0 (by omega)
  have o3 := gt_top_inf
  have HTAB := Lib.hid htab
  clear hp0 hp1 hp2 hp3 htab
  go_enter Tryz.func3, Tryz.ntmps3
  go_wp2_with fail
  refine (awake_any _ HTAB.out).mono ?_
  rintro e wa ⟨rfl, hb⟩
  have HB0 := Lib.hid hb; clear hb
  go_wp2_with fail
  refine (HP0.out _).mono ?_
  rintro e w0 ⟨rfl, hb⟩
  have HB1 := Lib.hid (HB0.out.trans (hb.mono HB0.out.size)); clear hb HB0
  go_wp2_with fail
  refine (HP1.out _).mono ?_
  rintro e w1 ⟨rfl, hb⟩
  have HB2 := Lib.hid (HB1.out.trans (hb.mono HB1.out.size)); clear hb HB1
  go_wp2_with fail
  refine (HP2.out _).mono ?_
  rintro e w2 ⟨rfl, hb⟩
  have HB3 := Lib.hid (HB2.out.trans (hb.mono HB2.out.size)); clear hb HB2
  go_wp2_with fail
  refine (HP3.out _).mono ?_
  rintro e w3 ⟨rfl, hb⟩
  have HB4 := Lib.hid (HB3.out.trans (hb.mono HB3.out.size)); clear hb HB3
  go_wp2_with fail
  refine (print_any 4517329193108106637 _ (by decide) (HTAB.out.below HB4.out)).mono ?_
  rintro e v0 ⟨s, rfl, hs, hb⟩
  obtain rfl := print_unique hs evn_print0
  have HB5 := Lib.hid (HB4.out.trans (hb.mono HB4.out.size)); clear hb HB4 hs
  go_wp2_with fail
  refine (print_any 4502148214488346440 _ (by decide) (HTAB.out.below HB5.out)).mono ?_
  rintro e v1 ⟨s, rfl, hs, hb⟩
  obtain rfl := print_unique hs evn_print1
  have HB6 := Lib.hid (HB5.out.trans (hb.mono HB5.out.size)); clear hb HB5 hs
  go_wp2_with fail
  refine (print_any 9218868437227405311 _ (by decide) (HTAB.out.below HB6.out)).mono ?_
  rintro e v2 ⟨s, rfl, hs, hb⟩
  obtain rfl := print_unique hs evn_print2
  have HB7 := Lib.hid (HB6.out.trans (hb.mono HB6.out.size)); clear hb HB6 hs
  go_wp2_with fail
  refine (print_any 4746794007248510976 _ (by decide) (HTAB.out.below HB7.out)).mono ?_
  rintro e v3 ⟨s, rfl, hs, hb⟩
  obtain rfl := print_unique hs evn_print3
  have HB8 := Lib.hid (HB7.out.trans (hb.mono HB7.out.size)); clear hb HB7 hs
  go_wp2_with fail
  refine (print_any 4907451598986591450 _ (by decide) (HTAB.out.below HB8.out)).mono ?_
  rintro e v4 ⟨s, rfl, hs, hb⟩
  obtain rfl := print_unique hs evn_print4
  have HB9 := Lib.hid (HB8.out.trans (hb.mono HB8.out.size)); clear hb HB8 hs
  go_wp2_with fail
  go_ret
  exact ⟨rfl, HB9.out⟩

end Go.Proofs.YteophaobcebppaaGreatDoor.dg
