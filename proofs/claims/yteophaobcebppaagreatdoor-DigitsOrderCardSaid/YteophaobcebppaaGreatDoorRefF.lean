/- The walk of galleyref03's against. Conditions: the lists are short enough to lie in memory. -/
import Derived.Test.YteophaobcebppaaGreatDoorRefE
import Derived.Deep.RegionWith
import Derived.Deep.DeepCutAuto
set_option linter.unusedSimpArgs false
namespace Go.Proofs.YteophaobcebppaaGreatDoor.dg
open Go.RowKit
set_option linter.unusedVariables false

theorem RdP.below {w w' : World} {v : Value} {A B : Nat} (h : RdP w v A B) (hb : Below w.heap.size w w') : RdP w' v A B := by
  obtain ⟨va, vb, rfl, h1, h2⟩ := h
  exact ⟨va, vb, rfl, h1.below hb, h2.below hb⟩

set_option maxHeartbeats 1600000 in
set_option maxRecDepth 100000 in
theorem against_any (vp : Value) (A B m : Nat) (k : Int) (w : World) (hp : RdP w vp A B) (hm : m < B64) (hk0 : -10000 ≤ k) (hk1 : k ≤ 10000) (hlA : (wds A).length ≤ 100000) (hlB : (wds B).length ≤ 100000) :
    Calls Tryz.prog 88 #[vp, .int .u64 m, .int .i64 k] w fun e w' => ∃ r : Int, e = .returned (.int .i64 r) ∧ Stand r (A * 2 ^ (-k).toNat) (B * m * 2 ^ k.toNat) ∧ Below w.heap.size w w' := by
  obtain ⟨va, vb, rfl, ha, hb⟩ := hp
  obtain ⟨pa, ca, rfl, hac, ham, hap⟩ := id ha
  obtain ⟨pb, cb, rfl, hbc, hbm, hbp⟩ := id hb
  have HA := Lib.hid ha; have HB := Lib.hid hb
  clear ha hb hap hbp
  go_enter Tryz.func88, Tryz.ntmps88
  go_upto_region 2 with (fail)
  -- the boxed receiver
  obtain ⟨wb, hwb⟩ : ∃ wb, wb = w.alloc (.cells #[.slice pa (wds A).length ca, .slice pb (wds B).length cb] 79) := ⟨_, rfl⟩
  have hb0 : Below w.heap.size w wb := by rw [hwb]; exact (Below.refl _ _).alloc (Nat.le_refl _) _
  have hrow : wb.heap[w.heap.size]? = some (.cells #[.slice pa (wds A).length ca, .slice pb (wds B).length cb] 79 (0, 0)) := by rw [hwb]; exact heap_alloc_new w _
  have hc1 := cell_of_row wb w.heap.size 1 _ _ _ hrow
  simp only [List.getElem?_toArray, List.getElem?_cons_zero, List.getElem?_cons_succ] at hc1
  have hbs : w.heap.size < wb.heap.size := by rw [hwb]; simp
  rw [← hwb]
  have HB1 := Lib.hid (HB.out.below hb0)
  have HA1 := Lib.hid (HA.out.below hb0)
  have HROW := Lib.hid hrow
  clear hwb hrow
  -- the two halves of m
  rw [B64_def] at hm
  obtain ⟨lo, hlo⟩ : ∃ lo : Nat, lo = m % 4294967296 := ⟨_, rfl⟩
  obtain ⟨hi, hhi⟩ : ∃ hi : Nat, hi = m / 4294967296 := ⟨_, rfl⟩
  have hloI : ((m : Nat) : Int) % 4294967296 = (lo : Int) := by omega
  have hloW : IntKind.u32.wrap (m : Int) = (lo : Int) := by rw [IntKind.wrap_u32]; exact hloI
  have hhiI : ((m : Nat) : Int) / 4294967296 = (hi : Int) := by omega
  have hhiM : ((hi : Nat) : Int) % 4294967296 = (hi : Int) := by omega
  have hhiW : IntKind.u32.wrap (hi : Int) = (hi : Int) := by rw [IntKind.wrap_u32]; exact hhiM
  have hlo1 : lo < 4294967296 := by omega
  have hhi1 : hi < 4294967296 := by omega
  have ht1 := fun ww hr => rtimes_int (.slice pb (wds B).length cb) B (lo : Int) 0 ww hr (by omega) (by rw [B32_def]; omega) (by omega) (by rw [B32_def]; omega) (by omega)
  have ht2 := fun ww hr => rtimes_int (.slice pb (wds B).length cb) B (hi : Int) 0 ww hr (by omega) (by rw [B32_def]; omega) (by omega) (by rw [B32_def]; omega) (by omega)
  simp only [Int.toNat_natCast, Int.toNat_zero, Nat.add_zero] at ht1 ht2
  have hw1 : ∀ x : Nat, x < 4294967296 → (wds (B * x)).length ≤ 100001 := fun x hx => by
    have := wds_mul B x
    have h2 : (wds x).length ≤ 1 := wds_len_of_lt (by rw [Nat.pow_one, B32_def]; exact hx)
    omega
  have hl1 := hw1 lo hlo1
  have hl2 := hw1 hi hhi1
  have htw := fun vv ww hr => rtwos_any vv (B * hi) 32 ww hr (by omega) (by omega) (by omega)
  have e3 : (2 : Nat) ^ (32 : Int).toNat = B32 := rfl
  simp only [e3] at htw
  have hl3 : (wds (B * hi * B32)).length ≤ 100003 := by
    have := wds_mul (B * hi) B32
    have h2 : (wds B32).length ≤ 2 := wds_len_of_lt (by rw [B32_def]; omega)
    omega
  have hpl := fun v1 v2 ww h1 h2 => rplus_any v1 v2 (B * lo) (B * hi * B32) ww h1 h2 (by omega) (by omega)
  have e4 : B * lo + B * hi * B32 = B * m := by
    rw [Nat.mul_assoc, ← Nat.mul_add, B32_def]; congr 1; omega
  simp only [e4] at hpl
  have HT1 := Lib.hid ht1; have HT2 := Lib.hid ht2; have HTW := Lib.hid htw; have HPL := Lib.hid hpl
  have HM := Lib.hid hm
  clear ht1 ht2 htw hpl e3 e4 hw1 hl1 hl2 hl3 hlo hhi hm hlo1 hhi1
  go_region_held3 (fun w' => w'.cell? ⟨w.heap.size, 1, none⟩ = some (.slice pb (wds B).length cb)) (first | go_keep | (exact cell_keep hq1 (by assumption)) | (exact cell_keep hq2 (by assumption)) | (exact cell_keep hq3 (by assumption)) | (exact cell_keep hq4 (by assumption))) (first
    | (go_at_call 67; with_reducible refine (HT1.out _ (by exact HB1.out.drew)).mono ?_; rintro e w1 ⟨v1, rfl, hr1, -, -, hq1⟩)
    | (go_at_call 67; with_reducible refine (HT2.out _ (by exact HB1.out.drew.below hq1)).mono ?_; rintro e w2 ⟨v2, rfl, hr2, -, -, hq2⟩)
    | (go_at_call 89; refine (HTW.out _ _ hr2).mono ?_; rintro e w3 ⟨v3, rfl, hr3, hq3⟩)
    | (go_at_call 122; refine (HPL.out _ _ _ (by exact (hr1.below hq2).below hq3) hr3).mono ?_; rintro e w4 ⟨v4, rfl, hr4, hq4⟩))
  have hb1 : Below wb.heap.size wb w4 := Below.seq (Below.seq (Below.seq ((Below.refl _ _).drew.trans hq1) hq2) hq3) hq4
  have hbw : Below w.heap.size w w4 := hb0.trans (hb1.mono hb0.size)
  have HA4 := Lib.hid (HA1.out.below hb1)
  have HV4 := Lib.hid hr4
  have hlm : (wds (B * m)).length ≤ 100002 := by
    have := wds_mul B m
    have h2 : (wds m).length ≤ 2 := wds_len_of_lt (by have := HM.out; rw [B32_def]; omega)
    omega
  clear hr4 hr1 hr2 hr3 HT1 HT2 HTW HPL hc1 hloI hloW hhiI hhiM hhiW
  go_upto_if 25 with (fail)
  go_cut [7, 8] (fun av bv wx => ∃ w5, w5 = wx ∧ Below w.heap.size w w5 ∧ Rd32 w5 av (wds (A * 2 ^ (-k).toNat)) ∧ Rd32 w5 bv (wds (B * m * 2 ^ k.toNat)))
  case first =>
    by_cases hk : 0 ≤ k
    · have ht := rtwos_any v4 (B * m) k w4 HV4.out hk (by omega) (by omega)
      have HT := Lib.hid ht
      have hz : A * 2 ^ (-k).toNat = A := by rw [show (-k).toNat = 0 from by omega, Nat.pow_zero, Nat.mul_one]
      have HZ := Lib.hid hz
      clear ht hz
      go_wp2_with fail
      refine HT.out.mono ?_
      rintro e w5 ⟨v5, rfl, hr5, hb5⟩
      go_wp2_with fail
      go_meet
      exact ⟨_, rfl, hbw.trans (hb5.mono hbw.size), by rw [HZ.out]; exact HA4.out.below hb5, hr5⟩
    · have ht := rtwos_any (.slice pa (wds A).length ca) A (-k) w4 HA4.out (by omega) (by omega) (by omega)
      have HT := Lib.hid ht
      have hz : B * m * 2 ^ k.toNat = B * m := by rw [show k.toNat = 0 from by omega, Nat.pow_zero, Nat.mul_one]
      have HZ := Lib.hid hz
      clear ht hz
      go_wp2_with fail
      refine HT.out.mono ?_
      rintro e w5 ⟨v5, rfl, hr5, hb5⟩
      go_wp2_with fail
      go_meet
      exact ⟨_, rfl, hbw.trans (hb5.mono hbw.size), hr5, by rw [HZ.out]; exact HV4.out.below hb5⟩
  case rest =>
    obtain ⟨w5, rfl, hb5, ha5, hv5⟩ := hcut
    have hc := rcmp_any _ _ _ _ w5 ha5 hv5
    have HC := Lib.hid hc
    clear hc ha5 hv5
    go_wp2_with fail
    refine HC.out.mono ?_
    rintro e w6 ⟨r, rfl, hst, n, rfl⟩
    go_wp2_with fail
    go_ret
    exact ⟨r, rfl, hst, below_drewN hb5 n⟩

end Go.Proofs.YteophaobcebppaaGreatDoor.dg
