/- The walk of awake, the head of all statements: it answers true. Conditions: the table of powers of ten reads as it is laid. -/
import Derived.Test.YteophaobcebppaaGreatDoorPrint
import Derived.Test.YteophaobcebppaaGreatDoorNst
set_option linter.unusedSimpArgs false
namespace Go.Proofs.YteophaobcebppaaGreatDoor.dg
open Go.RowKit
set_option linter.unusedVariables false

theorem ev_parse1 : parseP [49, 46, 53, 101, 49, 120] = (4624633867356078080, 5, 0) := by decide +kernel
theorem ev_parse2 : parseP [101, 53] = (0, 0, 31) := by decide +kernel
theorem ev_near1 : nearP [50, 53] 1 = (4612811918334230528, 0) := by
  unfold nearP
  rw [if_pos (by decide)]
  rw [show readP [50, 53] 1 = 4612811918334230528 by decide +kernel]

theorem isShort_of {r : Nat} {l : List UInt8} {a : Int} (p : Int) (n q : Nat) (hp : lt10 (V r) (ONE 1074) p = true) (hp2 : lt10 (V r) (ONE 1074) (p - 1) = false) (hn : 1 ≤ n) (hn17 : n ≤ 17) (hno : (List.range n).all (fun j => decide (j = 0 ∨ pick r p j = none)) = true) (hpk : pick r p n = some q) (hl : l = Lib.trimRightB (Lib.decDigits q) 48) (ha : a = p - n + (Lib.decDigits q).length) : IsShort r l a := by
  refine ⟨p, n, q, ⟨hp, hp2⟩, hn, hn17, fun j h1 h2 => ?_, hpk, hl, ha⟩
  have := List.all_eq_true.1 hno j (List.mem_range.2 h2)
  rcases of_decide_eq_true this with h | h
  · omega
  · exact h

theorem ev_short1 : IsShort 4638355772470722560 [49, 50, 51] 3 :=
  isShort_of 3 3 123 (by decide +kernel) (by decide +kernel) (by omega) (by omega) (by decide +kernel) (by decide +kernel) (by simp [Lib.decDigits, Lib.trimRightB]) (by simp [Lib.decDigits])
theorem ev_short2 : IsShort 4921056587992461136 [49] 22 :=
  isShort_of 22 1 1 (by decide +kernel) (by decide +kernel) (by omega) (by omega) (by decide +kernel) (by decide +kernel) (by simp [Lib.decDigits, Lib.trimRightB]) (by simp [Lib.decDigits])

theorem body_unique {r : Nat} {s t : List UInt8} (h : IsBody r s) (h2 : IsBody r t) : s = t := by
  have hI := INF_val
  rcases h with ⟨a, rfl⟩ | ⟨a, rfl⟩ | ⟨a, b, d, p, hs, rfl⟩ <;> rcases h2 with ⟨a2, rfl⟩ | ⟨a2, rfl⟩ | ⟨a2, b2, d2, p2, hs2, rfl⟩
  all_goals first | rfl | (exfalso; omega) | skip
  obtain ⟨rfl, rfl⟩ := isShort_unique hs hs2
  rfl
theorem print_unique {x : Nat} {s t : List UInt8} (h : IsPrint x s) (h2 : IsPrint x t) : s = t := by
  rcases h with ⟨a, rfl⟩ | ⟨a, b, hb, rfl⟩ <;> rcases h2 with ⟨a2, rfl⟩ | ⟨a2, b2, hb2, rfl⟩
  · rfl
  · rw [a] at a2; cases a2
  · rw [a] at a2; cases a2
  · rw [body_unique hb hb2]

theorem ev_print1 : IsPrint 4921056587992461136 [49, 101, 43, 50, 49] := by
  refine Or.inr ⟨by decide +kernel, [49, 101, 43, 50, 49], Or.inr (Or.inr ⟨by decide, by decide +kernel, [49], 22, ev_short2, ?_⟩), by decide⟩
  simp [fmtL, Lib.decDigits]
theorem ev_print2 : IsPrint 9223372036854775808 [45, 48] :=
  Or.inr ⟨by decide +kernel, [48], Or.inr (Or.inl ⟨by decide, rfl⟩), by decide⟩

theorem same_order (a : Nat) (h : a ≤ INF) : (FloatKind.f64.format.order a a == some Ordering.eq) = true := by
  rw [rung_order h h, cmp_eq rfl]; rfl

set_option maxHeartbeats 1600000 in
set_option maxRecDepth 100000 in
theorem awake_any (w : World) (htab : Tab w) :
    Calls Tryz.prog 9 #[] w fun e w' => e = .returned (.bool true) ∧ Below w.heap.size w w' := by
  have hI := INF_val
  have hp1 := fun w => parse_any ⟨#[49, 46, 53, 101, 49, 120]⟩ w (by decide)
  have hp2 := fun w => parse_any ⟨#[101, 53]⟩ w (by decide)
  have hn1 := fun w => nearest_any ⟨#[50, 53]⟩ 1 w (by decide) (by decide) (by decide)
  simp only [show (⟨#[49, 46, 53, 101, 49, 120]⟩ : ByteArray).data.toList = [49, 46, 53, 101, 49, 120] from rfl, ev_parse1] at hp1
  simp only [show (⟨#[101, 53]⟩ : ByteArray).data.toList = [101, 53] from rfl, ev_parse2] at hp2
  simp only [show (⟨#[50, 53]⟩ : ByteArray).data.toList = [50, 53] from rfl, ev_near1] at hn1
  have o1 := same_order 4624633867356078080 (by omega)
  have o2 := same_order 4612811918334230528 (by omega)
  have HP1 := Lib.hid hp1; have HP2 := Lib.hid hp2; have HN1 := Lib.hid hn1; have HTAB := Lib.hid htab
  clear hp1 hp2 hn1 htab
  go_enter Tryz.func9, Tryz.ntmps9
  go_wp2_with fail
  refine (HP1.out _).mono ?_
  rintro e w1 ⟨rfl, hb1⟩
  have HB1 := Lib.hid hb1; clear hb1
  go_wp2_with fail
  refine (HP2.out _).mono ?_
  rintro e w2 ⟨rfl, hb2⟩
  have HB2 := Lib.hid (HB1.out.trans (hb2.mono HB1.out.size)); clear hb2 HB1
  go_wp2_with fail
  refine (short_some 4638355772470722560 4638355772470722560 _ (by decide) (by decide) (by decide) (by omega) (HTAB.out.below HB2.out)).mono ?_
  rintro e w3 ⟨d, p, rfl, hsh, hb3⟩
  obtain ⟨rfl, rfl⟩ := isShort_unique hsh ev_short1
  have HB3 := Lib.hid (HB2.out.trans (hb3.mono HB2.out.size)); clear hb3 HB2 hsh
  go_wp2_with fail
  refine (HN1.out _).mono ?_
  rintro e w4 ⟨rfl, hb4⟩
  have HB4 := Lib.hid (HB3.out.trans (hb4.mono HB3.out.size)); clear hb4 HB3
  go_wp2_with fail
  refine (print_any 4921056587992461136 _ (by decide) (HTAB.out.below HB4.out)).mono ?_
  rintro e w5 ⟨s, rfl, hs, hb5⟩
  obtain rfl := print_unique hs ev_print1
  have HB5 := Lib.hid (HB4.out.trans (hb5.mono HB4.out.size)); clear hb5 HB4 hs
  go_wp2_with fail
  refine (copysign_any 0 13830554455654793216 _ (by decide) (by decide)).mono ?_
  rintro e w6 ⟨rfl, rfl⟩
  rw [show 2 ^ 63 * (13830554455654793216 / 2 ^ 63) + 0 % 2 ^ 63 = 9223372036854775808 from rfl]
  go_wp2_with fail
  refine (print_any 9223372036854775808 _ (by decide) (HTAB.out.below HB5.out)).mono ?_
  rintro e w7 ⟨s, rfl, hs, hb7⟩
  obtain rfl := print_unique hs ev_print2
  have HB7 := Lib.hid (HB5.out.trans (hb7.mono HB5.out.size)); clear hb7 HB5 hs
  go_wp2_with fail
  go_ret
  exact ⟨rfl, HB7.out⟩

end Go.Proofs.YteophaobcebppaaGreatDoor.dg
