/- The walk of digits.Shortest. Conditions: the table of powers of ten reads as it is laid. -/
import Derived.Test.YteophaobcebppaaGreatDoorDigs
import Derived.Test.YteophaobcebppaaGreatDoorSplit
import Derived.Test.YteophaobcebppaaGreatDoorFmt
set_option linter.unusedSimpArgs false
namespace Go.Proofs.YteophaobcebppaaGreatDoor.dg
open Go.RowKit
set_option linter.unusedVariables false

theorem lt10_low {r : Nat} {n : Int} (h0 : 0 < r) (h : lt10 (V r) (ONE 1074) n = true) : -330 < n := by
  rcases Int.lt_or_le (-330) n with h1 | h1
  · exact h1
  · exfalso
    obtain ⟨K, hK⟩ : ∃ K : Nat, K = 330 := ⟨_, rfl⟩
    have hone : ONE 1074 < 10 ^ K := by rw [hK]; unfold ONE; exact big_low
    have hV := V_pos h0
    have h2 := lt10_up h1 h
    rw [lt10_iff] at h2
    have e1 : (-(-330 : Int)).toNat = K := by omega
    have e2 : (-330 : Int).toNat = 0 := rfl
    rw [e1, e2, Nat.pow_zero, Nat.mul_one] at h2
    have h3 : 1 * 10 ^ K ≤ V r * 10 ^ K := Nat.mul_le_mul_right _ hV
    rw [Nat.one_mul] at h3
    exact absurd (Nat.lt_of_le_of_lt h3 h2) (Nat.lt_asymm hone)
theorem lt10_high {r : Nat} {n : Int} (hI : r < INF) (h : lt10 (V r) (ONE 1074) n = false) : n < 310 := by
  rcases Int.lt_or_le n 310 with h1 | h1
  · exact h1
  · exfalso
    obtain ⟨L, hL⟩ : ∃ L : Nat, L = 310 := ⟨_, rfl⟩
    have htop : V r < ONE 1074 * 10 ^ L := by
      have h2 : V INF < ONE 1074 * 10 ^ L := by rw [V_INF, hL]; unfold ONE TOP; exact big_high
      exact Nat.lt_trans (V_lt hI) h2
    have h2 : lt10 (V r) (ONE 1074) 310 = true := by
      rw [lt10_iff]
      have e1 : (-(310 : Int)).toNat = 0 := rfl
      have e2 : (310 : Int).toNat = L := by omega
      rw [e1, e2, Nat.pow_zero, Nat.mul_one]; exact htop
    have := lt10_up h1 h2
    rw [h] at this; cases this

/-- what is chosen of two rows of digits when k of them are looked at. -/
def selq (q t D : Nat) (lo hi : Bool) (k : Nat) : Option Nat :=
  if k = 0 then none
  else if k = 1 then (if lo = true then some q else none)
  else if lo = false ∧ hi = false then none
  else if lo = false ∨ hi = true ∧ (D < 2 * t ∨ 2 * t = D ∧ q % 2 = 1) then some (q + 1) else some q

theorem pick_selq {r q t D n : Nat} {p : Int} (h1 : q = numS r p n / denS p n) (h2 : 2 * t < D ↔ 2 * (numS r p n % denS p n) < denS p n) (h3 : 2 * t = D ↔ 2 * (numS r p n % denS p n) = denS p n) :
    pick r p n = selq q t D (decide (decv q (p - n) = r)) (decide (decv (q + 1) (p - n) = r)) 2 := by
  unfold pick selq
  simp only [← h1]
  have h4 : denS p n < 2 * (numS r p n % denS p n) ↔ D < 2 * t := by omega
  have h5 : (denS p n < 2 * (numS r p n % denS p n) ∨ 2 * (numS r p n % denS p n) = denS p n ∧ q % 2 = 1) ↔ (D < 2 * t ∨ 2 * t = D ∧ q % 2 = 1) := by
    rw [h4, h3]
  rw [if_neg (by omega : ¬ 2 = 0), if_neg (by omega : ¬ 2 = 1)]
  simp only [h5]

theorem rung_eq_order {a b : Nat} (ha : a ≤ INF) (hb : b ≤ INF) : (FloatKind.f64.format.order a b != some Ordering.eq) = !decide (a = b) := by
  rw [rung_order ha hb]
  by_cases h : a = b
  · subst h; rw [cmp_eq rfl, decide_eq_true rfl]; rfl
  · rw [decide_eq_false h]
    rcases Nat.lt_or_gt_of_ne h with h1 | h1
    · rw [cmp_lt (by omega)]; rfl
    · rw [cmp_gt (by omega)]; rfl

theorem cls_zero {x : Nat} (h : cls x = 0 ∨ cls x = 3 ∨ cls x = 4) : ¬ (0 < x % 2 ^ 63 ∧ x % 2 ^ 63 < INF) := by
  rintro ⟨a, b⟩
  unfold cls at h
  rw [if_neg (by omega), if_neg (by omega), if_neg (by omega)] at h
  split at h <;> omega
theorem cls_fin {x : Nat} (a : 0 < x % 2 ^ 63) (b : x % 2 ^ 63 < INF) : cls x = 1 ∨ cls x = 2 := by
  unfold cls
  rw [if_neg (by omega), if_neg (by omega), if_neg (by omega)]
  split <;> omega

/-- one row of digits: its numeral, what is left of it without noughts behind, what it is read as. -/
structure Row (r : Nat) (p : Int) (n d : Nat) (L S : List UInt8) (dv : Nat) : Prop where
  num : L = Lib.decDigits d
  cut : S = Lib.trimRightB (Lib.decDigits d) 48
  len : L.length ≤ 18
  ne : S.isEmpty = false
  read : dv = decv d (p - n)
  top : dv ≤ INF
  fmt : ∀ w, Tab w → Calls Tryz.prog 41 #[.int .u64 (d : Int), .int .i64 10] w fun e w' => e = .returned (.string ⟨L.toArray⟩) ∧ Below w.heap.size w w'
  trim : ∀ w, Calls Tryz.prog 42 #[.string ⟨L.toArray⟩, .string ⟨#[48]⟩] w fun e w' => e = .returned (.string ⟨S.toArray⟩) ∧ w' = w
  back : ∀ w, Calls Tryz.prog 28 #[.string ⟨S.toArray⟩, .int .i64 (p + (L.length : Int) - n)] w fun e w' => e = .returned (.float .f64 dv) ∧ Below w.heap.size w w'

theorem row_of {r n d : Nat} {p : Int} (h0 : 0 < r) (hI : r < INF) (hp : Place r p) (hn1 : 1 ≤ n) (hn : n ≤ 17) (hd0 : 0 < d) (hd : d < 10 ^ 18) : ∃ L S dv, Row r p n d L S dv := by
  obtain ⟨hr0, hr1⟩ := place_range h0 hI hp
  obtain ⟨z, hz⟩ := trim_dec hd0
  have hl := nDigits_le (k := 18) (by omega) hd
  rw [← Lib.decDigits_length] at hl
  have hl1 := Lib.nDigits_pos d
  rw [← Lib.decDigits_length] at hl1
  have hsl := hz.len
  have hlI : (((Lib.decDigits d).length : Nat) : Int) ≤ 18 := by omega
  refine ⟨_, _, _, rfl, rfl, hl, ?_, rfl, rd_le _ _ (Nat.pow_pos (by omega)), fun w ht => formatUint_any d w (by omega) ht, fun w => ?_, fun w => ?_⟩
  · cases h : Lib.trimRightB (Lib.decDigits d) 48 with
    | nil => exact absurd h hz.ne
    | cons a b => rfl
  · have := Tryz.strings_TrimRight_one ⟨(Lib.decDigits d).toArray⟩ 48 (by decide) w (by rw [ba_of]; omega)
    rw [ba_of_list] at this
    exact this
  · have h1 := read_any ⟨(Lib.trimRightB (Lib.decDigits d) 48).toArray⟩ (p + ((Lib.decDigits d).length : Int) - n) w (by rw [ba_of_list]; exact hz.all) (by rw [ba_of]; omega) (by omega) (by omega)
    rw [ba_of_list, show p + ((Lib.decDigits d).length : Int) - n = p - n + ((Lib.decDigits d).length : Int) by omega, readP_trim hz (p - n) (by omega) (by omega) (by omega)] at h1
    rw [show p + ((Lib.decDigits d).length : Int) - n = p - n + ((Lib.decDigits d).length : Int) by omega]
    exact h1

@[go_sem] theorem split_class (b : Bool) (c m i : Int) (w : World) : (Instr.field 56 (.agg #[.bool b, .int .i64 c, .int .u64 m, .int .i64 i]) 1).run Tryz.prog w = .ok (.int .i64 c) w := by
  simp [Instr.field, run_underlying Tryz.underlying56, asAgg, go_sem]

set_option maxRecDepth 100000 in
theorem short_none (x : Nat) (w : World) (hx : x < B64) (h : cls x = 0 ∨ cls x = 3 ∨ cls x = 4) :
    Calls Tryz.prog 16 #[.float .f64 x] w fun e w' => e = .returned (.tuple #[.string ⟨#[]⟩, .int .i64 0]) ∧ Below w.heap.size w w' := by
  rcases h with h | h | h
  all_goals
    have hsp := split_any x w hx
    rw [h] at hsp
    have HS := Lib.hid hsp
    clear hsp h
    go_enter Tryz.func16, Tryz.ntmps16
    go_wp2_with fail
    refine HS.out.mono ?_
    rintro e w' ⟨m, i, rfl, hb⟩
    go_wp2_with fail
    go_ret2
    exact ⟨rfl, hb⟩

set_option maxHeartbeats 3200000 in
set_option maxRecDepth 100000 in
theorem short_some (x r : Nat) (w : World) (hx : x < B64) (hr : r = x % 2 ^ 63) (h0 : 0 < r) (hI : r < INF) (htab : Tab w) :
    Calls Tryz.prog 16 #[.float .f64 x] w fun e w' => ∃ (l : List UInt8) (a : Int), e = .returned (.tuple #[.string ⟨l.toArray⟩, .int .i64 a]) ∧ IsShort r l a ∧ Below w.heap.size w w' := by
  have hc := cls_fin (x := x) (by omega) (by omega)
  have hsp := split_any x w hx
  have habs := abs_any x
  rw [← hr] at habs
  obtain ⟨c, hcv⟩ : ∃ c, c = cls x := ⟨_, rfl⟩
  rw [← hcv] at hsp hc
  have hc0 : ¬ c = 0 := by omega
  have hc3 : ¬ c = 3 := by omega
  have hc4 : ¬ c = 4 := by omega
  have HS := Lib.hid hsp; have HA := Lib.hid habs; have HR := Lib.hid hr; have HC := Lib.hid hcv
  have HTAB := Lib.hid htab
  clear hsp habs hr hcv hc htab
  go_enter Tryz.func16, Tryz.ntmps16
  go_wp2_with fail
  refine HS.out.mono ?_
  rintro e w1 ⟨m, i, rfl, hb1⟩
  have HB1 := Lib.hid hb1
  clear hb1
  go_wp2_with fail
  refine (HA.out _ hx).mono ?_
  rintro e w' ⟨rfl, rfl⟩
  go_wp2_with fail
  refine (dparts_any r _ h0 hI).mono ?_
  rintro e w2 ⟨va, vb, A, B, rfl, ha, hb, hP, hb2⟩
  have HVA := Lib.hid ha; have HVB := Lib.hid hb; have HP := Lib.hid hP; have HB2 := Lib.hid (HB1.out.trans (hb2.mono HB1.out.size))
  have hlA := hP.lenA
  have hlB := hP.lenB
  clear ha hb hP hb2
  go_wp2_with fail
  refine (log10_any h0 hI _).mono ?_
  rintro e w' ⟨lg, rfl, hlg, rfl⟩
  have HLG := Lib.hid hlg; clear hlg
  go_wp2_with fail
  refine (floor_any HLG.out (by omega) _).mono ?_
  rintro e w' ⟨fl, rfl, hfl, rfl⟩
  obtain ⟨pt0, hpt, hptb⟩ := toInt_bd hfl (by omega)
  have hcv : ∀ w, (convert 23 3 (.float .f64 fl)).run Tryz.prog w = .ok (.int .i64 pt0) w := fun w => by
    refine run_convert_float_int w 23 3 .f64 .i64 _ _ (by kernel_rfl) (by kernel_rfl) ?_
    have e4 : (FloatKind.f64.decode fl).toInt .zero = some pt0 := hpt
    unfold floatToIntVal
    rw [e4]
    have h2 : IntKind.i64.min ≤ pt0 ∧ pt0 ≤ IntKind.i64.max := by
      have a1 : IntKind.i64.min = -9223372036854775808 := by decide
      have a2 : IntKind.i64.max = 9223372036854775807 := by decide
      rw [a1, a2]; omega
    simp only [h2, and_self, if_true]
  have hpt1 : -2999 ≤ pt0 := by omega
  have hpt2 : pt0 ≤ 2999 := by omega
  clear hpt hptb hfl
  go_wp2_with fail
  go_loopw [6] (fun vp wr => ∃ pt : Int, vp = .int .i64 pt ∧ -3000 ≤ pt ∧ pt ≤ 3000 ∧ Below w2.heap.size w2 wr) (fun vp _ => (intOf vp + 4000).toNat)
  case atStart => exact ⟨pt0 + 1, rfl, by omega, by omega, Below.refl _ _⟩
  case round =>
    obtain ⟨pt, rfl, hp0, hp1, hbr⟩ := hrel
    have hcond := below_any va vb A B (pt - 1) wr (HVA.out.below hbr) (HVB.out.below hbr) hlA hlB (by omega) (by omega)
    rw [lt10_parts HP.out] at hcond
    have HCO := Lib.hid hcond
    clear hcond
    by_cases hlt : lt10 (V r) (ONE 1074) (pt - 1) = true
    · have hlow := lt10_low h0 hlt
      rw [hlt] at HCO
      go_wp2_with fail
      refine HCO.out.mono ?_
      rintro e w3 ⟨rfl, hb3⟩
      go_wp2_with fail
      go_roundw
      case rel => exact ⟨pt - 1, by go_num, by omega, by omega, Below.seq hbr hb3⟩
      case measure => simp [intOf]; omega
    · have hlt := eq_false_of_ne_true hlt
      rw [hlt] at HCO
      go_wp2_with fail
      refine HCO.out.mono ?_
      rintro e w3 ⟨rfl, hb3⟩
      have HB3 := Lib.hid (Below.seq hbr hb3)
      have HLT := Lib.hid hlt
      clear hbr hb3 hlt HCO
      go_wp2_with fail
      have hw3 : Below w2.heap.size w2 w3 := HB3.out
      have HVA3 := Lib.hid (HVA.out.below hw3)
      have HVB3 := Lib.hid (HVB.out.below hw3)
      have HBW3 := Lib.hid (HB2.out.trans (hw3.mono HB2.out.size))
      clear hw3 HB3 HVA HVB
      go_loopw [6] (fun vp wr => ∃ pt : Int, vp = .int .i64 pt ∧ -3000 ≤ pt ∧ pt ≤ 3000 ∧ lt10 (V r) (ONE 1074) (pt - 1) = false ∧ Below w3.heap.size w3 wr) (fun vp _ => (4000 - intOf vp).toNat)
      case atStart => exact ⟨pt, rfl, by omega, by omega, HLT.out, Below.refl _ _⟩
      case round =>
        obtain ⟨pu, rfl, hq0, hq1, hpl, hbr⟩ := hrel
        have hcond := below_any va vb A B pu wr (HVA3.out.below hbr) (HVB3.out.below hbr) hlA hlB (by omega) (by omega)
        rw [lt10_parts HP.out] at hcond
        have HCO := Lib.hid hcond
        have HPL := Lib.hid hpl
        clear hcond hpl
        by_cases hlt : lt10 (V r) (ONE 1074) pu = true
        · rw [hlt] at HCO
          have hplace : Place r pu := ⟨hlt, HPL.out⟩
          go_wp2_with fail
          refine HCO.out.mono ?_
          rintro e w4 ⟨rfl, hb4⟩
          have HB4 := Lib.hid (Below.seq hbr hb4)
          obtain ⟨hr0, hr1⟩ := place_range h0 hI hplace
          have HPLACE := Lib.hid hplace
          clear hbr hb4 hlt HCO hplace HPL HLT hq0 hq1 hp0 hp1
          go_wp2_with fail
          have HV4 := Lib.hid (HVA3.out.below HB4.out); have HW4 := Lib.hid (HVB3.out.below HB4.out)
          have HBW4 := Lib.hid (HBW3.out.trans (HB4.out.mono HBW3.out.size))
          clear HVA3 HVB3 HB4
          go_loopw [7] (fun vn wr => ∃ n : Nat, vn = .int .i64 n ∧ 1 ≤ n ∧ n ≤ 17 ∧ (∀ j, 1 ≤ j → j < n → pick r pu j = none) ∧ Below w4.heap.size w4 wr) (fun vn _ => (20 - intOf vn).toNat)
          case atStart => exact ⟨1, rfl, by omega, by omega, by intro j h1 h2; omega, Below.refl _ _⟩
          case round =>
            obtain ⟨n, rfl, hn1, hn17, hno, hbr⟩ := hrel
            have HNO := Lib.hid hno
            have HVr := Lib.hid (HV4.out.below hbr); have HWr := Lib.hid (HW4.out.below hbr)
            have HBr := Lib.hid hbr
            clear hno hbr
            obtain ⟨N, hN⟩ : ∃ N, N = A * 10 ^ ((n : Int) - pu).toNat := ⟨_, rfl⟩
            obtain ⟨D, hD⟩ : ∃ D, D = B * 10 ^ (pu - (n : Int)).toNat := ⟨_, rfl⟩
            have hNl : (words N).length ≤ 5000 := by
              have := words_mul A (10 ^ ((n : Int) - pu).toNat); have := words_ten ((n : Int) - pu).toNat; rw [hN]; omega
            have hDl : (words D).length ≤ 5000 := by
              have := words_mul B (10 ^ (pu - (n : Int)).toNat); have := words_ten (pu - (n : Int)).toNat; rw [hD]; omega
            have HN := Lib.hid hN; have HD := Lib.hid hD
            clear hN hD
            go_upto_if 60 with (fail)
            go_cut [8, 9] (fun av bv wx => ∃ w5, w5 = wx ∧ Below wr.heap.size wr w5 ∧ Rd64 w5 av (words N) ∧ Rd64 w5 bv (words D))
            case first =>
              by_cases hge : pu ≤ n
              · have hz : B = D := by rw [HD.out, show (pu - (n : Int)).toNat = 0 by omega, Nat.pow_zero, Nat.mul_one]
                have ht := words_ten ((n : Int) - pu).toNat
                have HZ := Lib.hid hz
                clear hz
                go_wp2_with fail
                refine (ten_any ((n : Int) - pu) _ (by omega) (by omega)).mono ?_
                rintro e w5 ⟨v5, rfl, hv5, hb5⟩
                have HV5 := Lib.hid hv5; have HB5 := Lib.hid hb5
                clear hv5 hb5
                go_wp2_with fail
                with_reducible refine (mul_any _ _ A (10 ^ ((n : Int) - pu).toNat) _ (HVr.out.below HB5.out) HV5.out (by omega)).mono ?_
                rintro e w6 ⟨v6, rfl, hv6, hb6⟩
                have HV6 := Lib.hid hv6; have HB6 := Lib.hid (Below.seq HB5.out hb6)
                clear hv6 hb6
                go_wp2_with fail
                go_meet
                exact ⟨_, rfl, HB6.out, by rw [HN.out]; exact HV6.out, by rw [← HZ.out]; exact HWr.out.below HB6.out⟩
              · have hz : A = N := by rw [HN.out, show ((n : Int) - pu).toNat = 0 by omega, Nat.pow_zero, Nat.mul_one]
                have ht := words_ten (pu - (n : Int)).toNat
                have HZ := Lib.hid hz
                clear hz
                go_wp2_with fail
                refine (ten_any (pu - (n : Int)) _ (by omega) (by omega)).mono ?_
                rintro e w5 ⟨v5, rfl, hv5, hb5⟩
                have HV5 := Lib.hid hv5; have HB5 := Lib.hid hb5
                clear hv5 hb5
                go_wp2_with fail
                with_reducible refine (mul_any _ _ B (10 ^ (pu - (n : Int)).toNat) _ (HWr.out.below HB5.out) HV5.out (by omega)).mono ?_
                rintro e w6 ⟨v6, rfl, hv6, hb6⟩
                have HV6 := Lib.hid hv6; have HB6 := Lib.hid (Below.seq HB5.out hb6)
                clear hv6 hb6
                go_wp2_with fail
                go_meet
                exact ⟨_, rfl, HB6.out, by rw [← HZ.out]; exact HVr.out.below HB6.out, by rw [HD.out]; exact HV6.out⟩
            case rest =>
              obtain ⟨w5, rfl, hb5, hav, hbv⟩ := hcut
              have HB5 := Lib.hid (Below.seq HBr.out hb5)
              have hq := quo_range (n := n) h0 HPLACE.out hn1
              obtain ⟨pe1, pe2, pe3⟩ := pick_parts HP.out pu n
              rw [← HN.out, ← HD.out] at pe1 pe2 pe3
              obtain ⟨q, hqd⟩ : ∃ q, q = N / D := ⟨_, rfl⟩
              obtain ⟨t, htd⟩ : ∃ t, t = N % D := ⟨_, rfl⟩
              rw [← hqd] at pe1
              rw [← pe1] at hq
              rw [← htd] at pe2 pe3
              have hDp : 0 < D := by rw [HD.out]; exact Nat.mul_pos HP.out.pos (Nat.pow_pos (by omega))
              have htl : t < D := by rw [htd]; exact Nat.mod_lt _ hDp
              have h17 : 10 ^ n ≤ 10 ^ 17 := Nat.pow_le_pow_right (by omega) hn17
              have hqB : q < B64 := by rw [B64_def]; omega
              have hw1 := words_one (n := q) (by omega) hqB
              have hq17 : q < 10 ^ 17 := by omega
              have hq1 : 1 ≤ q := hq.1
              clear h17 hq hb5
              have HAV := Lib.hid hav; have HBV := Lib.hid hbv
              clear hav hbv
              have HE1 := Lib.hid pe1; have HE2 := Lib.hid pe2; have HE3 := Lib.hid pe3; have HQD := Lib.hid hqd; have HTD := Lib.hid htd
              clear pe1 pe2 pe3 hqd htd HN HD
              go_wp2_with fail
              with_reducible refine (quo_any _ _ N D _ HAV.out HBV.out (by omega) (by omega) (by omega)).mono ?_
              rintro e w6 ⟨vq, vt, rfl, hvq, hvt, hb6⟩
              rw [← HQD.out, hw1] at hvq
              rw [← HTD.out] at hvt
              obtain ⟨pq, cq, rfl, hqc, hqm, hqp⟩ := hvq
              obtain ⟨bq, oq, rfl, hqcell⟩ := hqp (by simp)
              have hcell0 := hqcell 0 (by simp)
              rw [Nat.add_zero] at hcell0
              have hcell : w6.cell? ⟨bq, oq, none⟩ = some (.int .u64 (q : Int)) := hcell0
              clear hcell0
              have HVT := Lib.hid hvt; have HBV6 := Lib.hid (HBV.out.below hb6); have HB6 := Lib.hid (Below.seq HB5.out hb6)
              have hlen1 : [q].length = 1 := rfl
              rw [hlen1] at hqc ⊢
              have htab : Tab w6 := HTAB.out.below (HBW4.out.trans (HB6.out.mono HBW4.out.size))
              have HTAB6 := Lib.hid htab
              clear hvt hb6 hw1 hqm hqp hqcell hlen1 htab HAV HBV HB5 HVr HWr HBr
              go_wp2_with fail
              obtain ⟨lo, hlo⟩ : ∃ lo, lo = decide (decv q (pu - n) = r) := ⟨_, rfl⟩
              obtain ⟨hi, hhi⟩ : ∃ hi, hi = decide (decv (q + 1) (pu - n) = r) := ⟨_, rfl⟩
              have hpick := pick_selq HE1.out HE2.out HE3.out
              rw [← hlo, ← hhi] at hpick
              have HPK := Lib.hid hpick; have HLO := Lib.hid hlo; have HHI := Lib.hid hhi
              clear hpick hlo hhi hcell hqc HE1 HE2 HE3 HQD HTD hr1 hr0 hNl
              go_loopw [13, 14, 15, 85] (fun vb vat vg vk wk => ∃ k : Nat, k ≤ 2 ∧ vk = .int .i64 k ∧ Below w6.heap.size w6 wk ∧ ((selq q t D lo hi k = none ∧ vb = .string ⟨#[]⟩ ∧ vat = .int .i64 0 ∧ vg = .slice none 0 0) ∨ (∃ d, selq q t D lo hi k = some d ∧ 0 < d ∧ vb = .string ⟨(Lib.trimRightB (Lib.decDigits d) 48).toArray⟩ ∧ vat = .int .i64 (pu + (Lib.decDigits d).length - n) ∧ (k = 1 → vg = vt)))) (fun _ _ _ vk _ => (5 - intOf vk).toNat)
              case atStart => exact ⟨0, by omega, rfl, Below.refl _ _, Or.inl ⟨rfl, rfl, rfl, rfl⟩⟩
              case round =>
                obtain ⟨k, hk2, rfl, hbk, hsel⟩ := hrel
                by_cases hkk : k < 2
                · rcases (by omega : k = 0 ∨ k = 1) with rfl | rfl
                  · skip
                    obtain ⟨L, S, dv, hrow⟩ := row_of (n := n) (d := q) h0 hI HPLACE.out hn1 hn17 (by omega) (by omega)
                    have HROW := Lib.hid hrow
                    obtain ⟨hr0, hr1⟩ := place_range h0 hI HPLACE.out
                    have htk := HTAB6.out.below hbk
                    have HFM := Lib.hid (hrow.fmt wr htk)
                    have hLl := hrow.len
                    have hSe := hrow.ne
                    have hdvI := hrow.top
                    have hneq : (FloatKind.f64.format.order dv r != some Ordering.eq) = !lo := by
                      rw [rung_eq_order hdvI (Nat.le_of_lt hI), hrow.read, HLO.out]
                    have HBK := Lib.hid hbk
                    have hqI : ((q : Nat) : Int) ≤ 100000000000000000 := by omega
                    clear hrow htk hbk hdvI
                    obtain ⟨-, rfl, rfl, rfl⟩ : selq q t D lo hi 0 = none ∧ u13 = .string ⟨#[]⟩ ∧ u14 = .int .i64 0 ∧ u15 = .slice none 0 0 := by
                      rcases hsel with h | ⟨d, h, -⟩
                      · exact h
                      · cases h
                    clear hsel
                    go_wp2_with fail
                    with_reducible refine HFM.out.mono ?_
                    rintro e wa ⟨rfl, hba⟩
                    have HBA := Lib.hid (Below.seq HBK.out hba)
                    clear hba
                    go_wp2_with fail
                    with_reducible refine (HROW.out.trim _).mono ?_
                    rintro e w' ⟨rfl, rfl⟩
                    go_wp2_with fail
                    with_reducible refine (HROW.out.back _).mono ?_
                    rintro e wb ⟨rfl, hbb⟩
                    have HBB := Lib.hid (Below.seq HBA.out hbb)
                    clear hbb HBA HFM
                    cases lo
                    · go_wp2_with fail
                      go_roundw
                      case rel => exact ⟨1, by omega, by go_num, HBB.out, Or.inl ⟨rfl, rfl, rfl, rfl⟩⟩
                      case measure => simp [intOf]
                    · go_wp2_with fail
                      go_roundw
                      case rel => exact ⟨1, by omega, by go_num, HBB.out, Or.inr ⟨q, rfl, by omega, by rw [HROW.out.cut], by rw [HROW.out.num], fun _ => rfl⟩⟩
                      case measure => simp [intOf]
                  · skip
                    obtain ⟨L, S, dv, hrow⟩ := row_of (n := n) (d := (q + 1)) h0 hI HPLACE.out hn1 hn17 (by omega) (by omega)
                    have HROW := Lib.hid hrow
                    obtain ⟨hr0, hr1⟩ := place_range h0 hI HPLACE.out
                    have htk := HTAB6.out.below hbk
                    have hfm := hrow.fmt wr htk
                    rw [show (((q + 1 : Nat)) : Int) = (q : Int) + 1 from rfl] at hfm
                    have HFM := Lib.hid hfm
                    clear hfm
                    have hLl := hrow.len
                    have hSe := hrow.ne
                    have hdvI := hrow.top
                    have hneq : (FloatKind.f64.format.order dv r != some Ordering.eq) = !hi := by
                      rw [rung_eq_order hdvI (Nat.le_of_lt hI), hrow.read, HHI.out]
                    have HBK := Lib.hid hbk
                    have hqI : ((q : Nat) : Int) ≤ 100000000000000000 := by omega
                    clear hrow htk hbk hdvI
                    cases lo
                    · obtain ⟨-, rfl, rfl, rfl⟩ : selq q t D false hi 1 = none ∧ u13 = .string ⟨#[]⟩ ∧ u14 = .int .i64 0 ∧ u15 = .slice none 0 0 := by
                        rcases hsel with h | ⟨d, h, -⟩
                        · exact h
                        · cases h
                      clear hsel
                      go_wp2_with fail
                      with_reducible refine HFM.out.mono ?_
                      rintro e wa ⟨rfl, hba⟩
                      have HBA := Lib.hid (Below.seq HBK.out hba)
                      clear hba
                      go_wp2_with fail
                      with_reducible refine (HROW.out.trim _).mono ?_
                      rintro e w' ⟨rfl, rfl⟩
                      go_wp2_with fail
                      with_reducible refine (HROW.out.back _).mono ?_
                      rintro e wb ⟨rfl, hbb⟩
                      have HBB := Lib.hid (Below.seq HBA.out hbb)
                      clear hbb HBA HFM
                      cases hi
                      · go_wp2_with fail
                        go_roundw
                        case rel => exact ⟨2, by omega, by go_num, HBB.out, Or.inl ⟨rfl, rfl, rfl, rfl⟩⟩
                        case measure => simp [intOf]
                      · go_wp2_with fail
                        with_reducible refine (sub_any _ _ D t _ (HBV6.out.below HBB.out) (HVT.out.below HBB.out) (by omega) (by omega)).mono ?_
                        rintro e wc ⟨vg, rfl, hvg, -, hbc⟩
                        have HBC := Lib.hid (Below.seq HBB.out hbc)
                        clear hvg hbc HBB
                        go_wp2_with fail
                        go_roundw
                        case rel => exact ⟨2, by omega, by go_num, HBC.out, Or.inr ⟨q + 1, rfl, by omega, by rw [HROW.out.cut], by rw [HROW.out.num], fun h => by omega⟩⟩
                        case measure => simp [intOf]
                    · obtain ⟨rfl, rfl, rfl⟩ : u13 = .string ⟨(Lib.trimRightB (Lib.decDigits q) 48).toArray⟩ ∧ u14 = .int .i64 (pu + (Lib.decDigits q).length - n) ∧ u15 = vt := by
                        rcases hsel with ⟨h, -⟩ | ⟨d, h, -, h3, h4, h5⟩
                        · cases h
                        · cases h
                          exact ⟨h3, h4, h5 rfl⟩
                      clear hsel
                      obtain ⟨L0, S0, dv0, hrow0⟩ := row_of (n := n) (d := q) h0 hI HPLACE.out hn1 hn17 (by omega) (by omega)
                      have hS0 := hrow0.ne
                      rw [← hrow0.cut, ← hrow0.num]
                      have HROW0 := Lib.hid hrow0
                      clear hrow0
                      go_wp2_with fail
                      with_reducible refine HFM.out.mono ?_
                      rintro e wa ⟨rfl, hba⟩
                      have HBA := Lib.hid (Below.seq HBK.out hba)
                      clear hba
                      go_wp2_with fail
                      with_reducible refine (HROW.out.trim _).mono ?_
                      rintro e w' ⟨rfl, rfl⟩
                      go_wp2_with fail
                      with_reducible refine (HROW.out.back _).mono ?_
                      rintro e wb ⟨rfl, hbb⟩
                      have HBB := Lib.hid (Below.seq HBA.out hbb)
                      clear hbb HBA HFM
                      cases hi
                      · go_wp2_with fail
                        go_roundw
                        case rel => exact ⟨2, by omega, by go_num, HBB.out, Or.inr ⟨q, rfl, by omega, by rw [HROW0.out.cut], by rw [HROW0.out.num], fun h => by omega⟩⟩
                        case measure => simp [intOf]
                      · go_wp2_with fail
                        with_reducible refine (sub_any _ _ D t _ (HBV6.out.below HBB.out) (HVT.out.below HBB.out) (by omega) (by omega)).mono ?_
                        rintro e wc ⟨vg, rfl, hvg, -, hbc⟩
                        have HBC := Lib.hid (Below.seq HBB.out hbc)
                        have HVG := Lib.hid hvg; have HVTC := Lib.hid ((HVT.out.below HBB.out).below hbc)
                        clear hvg hbc HBB
                        go_wp2_with fail
                        with_reducible refine (cmp_any _ _ (D - t) t _ HVG.out HVTC.out).mono ?_
                        rintro e wd ⟨r1, rfl, hst1, n1, rfl⟩
                        by_cases hr1 : r1 < 0
                        · have hsel2 : selq q t D true true 2 = some (q + 1) := by
                            have := hst1.1.1 hr1
                            unfold selq
                            rw [if_neg (by omega), if_neg (by omega), if_neg (by simp), if_pos (Or.inr ⟨rfl, Or.inl (by omega)⟩)]
                          have HS2 := Lib.hid hsel2
                          clear hsel2 hst1
                          go_wp2_with fail
                          go_roundw
                          case rel => exact ⟨2, by omega, by go_num, below_drewN HBC.out n1, Or.inr ⟨q + 1, HS2.out, by omega, by rw [HROW.out.cut], by rw [HROW.out.num], fun h => by omega⟩⟩
                          case measure => simp [intOf]
                        · have hlt1 : ¬ D - t < t := fun h => hr1 (hst1.1.2 h)
                          have HLT1 := Lib.hid hlt1
                          clear hst1 hlt1
                          go_wp2_with fail
                          with_reducible refine (cmp_any _ _ (D - t) t _ (HVG.out.drewN n1) (HVTC.out.drewN n1)).mono ?_
                          rintro e wd ⟨r2, rfl, hst2, n2, rfl⟩
                          have hbf : Below w6.heap.size w6 (wc.drewN (n1 + n2)) := below_drewN HBC.out (n1 + n2)
                          have HBF := Lib.hid hbf
                          clear hbf
                          by_cases hr2 : r2 = 0
                          · have heq : 2 * t = D := by
                              have a := hst2.1; have b := hst2.2
                              omega
                            have HEQ := Lib.hid heq
                            clear hst2 heq
                            by_cases hpar : ((q : Nat) : Int) % 2 = 1
                            · have hpar2 : (((q : Nat) : Int) + 1) % 2 = 0 := by omega
                              have hparb : ((((q : Nat) : Int) + 1) % 2 == 0) = true := beq_iff_eq.2 hpar2
                              have hsel2 : selq q t D true true 2 = some (q + 1) := by
                                unfold selq
                                rw [if_neg (by omega), if_neg (by omega), if_neg (by simp), if_pos (Or.inr ⟨rfl, Or.inr ⟨HEQ.out, by omega⟩⟩)]
                              have HS2 := Lib.hid hsel2
                              clear hsel2 hpar hpar2
                              go_wp2_with fail
                              go_roundw
                              case rel => exact ⟨2, by omega, by go_num, HBF.out, Or.inr ⟨q + 1, HS2.out, by omega, by rw [HROW.out.cut], by rw [HROW.out.num], fun h => by omega⟩⟩
                              case measure => simp [intOf]
                            · have hpar2 : ¬ (((q : Nat) : Int) + 1) % 2 = 0 := by omega
                              have hparb : ((((q : Nat) : Int) + 1) % 2 == 0) = false := beq_eq_false_iff_ne.2 hpar2
                              have hsel2 : selq q t D true true 2 = some q := by
                                unfold selq
                                rw [if_neg (by omega), if_neg (by omega), if_neg (by simp), if_neg (by
                                  rintro (h | ⟨-, h | ⟨-, h⟩⟩)
                                  · cases h
                                  · have := HEQ.out; omega
                                  · omega)]
                              have HS2 := Lib.hid hsel2
                              clear hsel2 hpar hpar2
                              go_wp2_with fail
                              go_roundw
                              case rel => exact ⟨2, by omega, by go_num, HBF.out, Or.inr ⟨q, HS2.out, by omega, by rw [HROW0.out.cut], by rw [HROW0.out.num], fun h => by omega⟩⟩
                              case measure => simp [intOf]
                          · have hsel2 : selq q t D true true 2 = some q := by
                              have a := hst2.1; have b := hst2.2
                              have c := HLT1.out
                              unfold selq
                              rw [if_neg (by omega), if_neg (by omega), if_neg (by simp), if_neg (by
                                rintro (h | ⟨-, h | ⟨h, -⟩⟩)
                                · cases h
                                · omega
                                · omega)]
                            have HS2 := Lib.hid hsel2
                            clear hsel2 hst2
                            go_wp2_with fail
                            go_roundw
                            case rel => exact ⟨2, by omega, by go_num, HBF.out, Or.inr ⟨q, HS2.out, by omega, by rw [HROW0.out.cut], by rw [HROW0.out.num], fun h => by omega⟩⟩
                            case measure => simp [intOf]
                · have hk : k = 2 := by omega
                  subst hk
                  rw [← HPK.out] at hsel
                  rcases hsel with ⟨hs0, rfl, rfl, rfl⟩ | ⟨d, hs0, hd0, rfl, rfl, -⟩
                  · have hn : n ≠ 17 := fun e => pick17 h0 hI HPLACE.out (by rw [← e]; exact hs0)
                    have hno2 : ∀ j, 1 ≤ j → j < n + 1 → pick r pu j = none := fun j h1 h2 => by
                      rcases Nat.lt_or_ge j n with h3 | h3
                      · exact HNO.out j h1 h3
                      · have : j = n := by omega
                        rw [this]; exact hs0
                    have HNO2 := Lib.hid hno2
                    have HBK := Lib.hid (Below.seq HB6.out hbk)
                    clear hs0 hbk hno2
                    go_wp2_with fail
                    go_roundw
                    case rel => exact ⟨n + 1, by go_num, by omega, by omega, HNO2.out, HBK.out⟩
                    case measure => simp [intOf]; omega
                  · have hshort : IsShort r (Lib.trimRightB (Lib.decDigits d) 48) (pu + (Lib.decDigits d).length - n) :=
                      ⟨pu, n, d, HPLACE.out, hn1, hn17, HNO.out, hs0, rfl, by omega⟩
                    obtain ⟨z, hz⟩ := trim_dec hd0
                    obtain ⟨sl, hsl⟩ : ∃ sl, sl = Lib.trimRightB (Lib.decDigits d) 48 := ⟨_, rfl⟩
                    obtain ⟨pa, hpa⟩ : ∃ pa, pa = pu + ((Lib.decDigits d).length : Int) - n := ⟨_, rfl⟩
                    have hne : sl ≠ [] := by rw [hsl]; exact hz.ne
                    rw [← hsl, ← hpa] at hshort ⊢
                    have HSH := Lib.hid hshort
                    have hemp : sl.isEmpty = false := by cases sl with | nil => exact absurd rfl hne | cons a b => rfl
                    have HBK := Lib.hid (HBW4.out.trans ((Below.seq HB6.out hbk).mono HBW4.out.size))
                    clear hsl hpa hz hs0 hbk hne hshort
                    go_wp2_with fail
                    go_ret2
                    exact ⟨sl, pa, rfl, HSH.out, HBK.out⟩
        · have hlt := eq_false_of_ne_true hlt
          have hhigh := lt10_high hI hlt
          rw [hlt] at HCO
          go_wp2_with fail
          refine HCO.out.mono ?_
          rintro e w4 ⟨rfl, hb4⟩
          go_wp2_with fail
          go_roundw
          case rel => exact ⟨pu + 1, by go_num, by omega, by omega, by rw [show pu + 1 - 1 = pu by omega]; exact hlt, Below.seq hbr hb4⟩
          case measure => simp [intOf]; omega

end Go.Proofs.YteophaobcebppaaGreatDoor.dg
