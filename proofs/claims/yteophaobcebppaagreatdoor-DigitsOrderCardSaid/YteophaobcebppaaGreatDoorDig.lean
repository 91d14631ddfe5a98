/- The walk of large.Digits: digits as a whole number in memory. Conditions: nothing but digits, and few enough. -/
import Derived.Test.YteophaobcebppaaGreatDoorRatio
import Derived.Test.YteophaobcebppaaGreatDoorDval
import Derived.Test.YteophaobcebppaaGreatDoorShelf
import Derived.Deep.RegionWith
set_option linter.unusedSimpArgs false
namespace Go.Proofs.YteophaobcebppaaGreatDoor.dg
open Go.RowKit
set_option linter.unusedVariables false

def strLen : Value → Nat
  | .string t => t.size
  | _ => 0

theorem digits_parse (s : ByteArray) (w : World) (h : AllD s.data.toList) (h0 : s.size ≠ 0) (hl : s.size ≤ 18) :
    Calls Tryz.prog 97 #[.string s, .int .i64 10, .int .i64 64] w fun e w' => e = .returned (.tuple #[.int .u64 (dval s.data.toList : Nat), .nilIface]) ∧ Below w.heap.size w w' := by
  have hsz : s.data.toList.length = s.size := by simp
  refine (Tryz.strconv_ParseUint_10_at64_ok s (by omega) (dval s.data.toList) (parseUintB_ok h (by intro h2; rw [h2] at hsz; simp at hsz; omega) (by omega)) w).mono ?_
  rintro e w' ⟨rfl, rfl | rfl⟩
  · exact ⟨rfl, Below.refl _ _⟩
  · exact ⟨rfl, Lib.bytesWorld_below _ _ _⟩

theorem words_dval {l : List UInt8} (h : AllD l) (n : Nat) (hn : l.length ≤ n) : (words (dval l)).length ≤ n + 1 := by
  refine words_len_of_lt (Nat.lt_of_lt_of_le (dval_lt h) ?_)
  refine Nat.le_trans (Nat.pow_le_pow_right (by omega) hn) ?_
  refine Nat.le_trans (Nat.pow_le_pow_left (m := B64) (by rw [B64_def]; omega) n) (Nat.pow_le_pow_right B64_pos (by omega))

theorem ba_list (t : ByteArray) : t.data.toList.length = t.size := by simp
theorem ba_empty {t : ByteArray} (h : t.size = 0) : t.toList.isEmpty = true := by
  rw [ByteArray.toList_eq, List.isEmpty_iff, ← List.length_eq_zero_iff, ba_list]; exact h
theorem ba_full {t : ByteArray} (h : t.size ≠ 0) : t.toList.isEmpty = false := by
  rw [ByteArray.toList_eq]
  cases e : t.data.toList with
  | nil => have := ba_list t; rw [e] at this; exact absurd this.symm h
  | cons _ _ => rfl
theorem ba_take (t : ByteArray) (k : Nat) : (t.extract 0 k).data.toList = t.data.toList.take k := by
  rw [ByteArray.data_extract, Array.toList_extract, List.extract_eq_take_drop, List.drop_zero, Nat.sub_zero]
theorem ba_drop (t : ByteArray) (k : Nat) : (t.extract k t.size).data.toList = t.data.toList.drop k := by
  rw [ByteArray.data_extract, Array.toList_extract, List.extract_eq_take_drop, List.take_of_length_le]
  rw [List.length_drop, ba_list]; omega

set_option maxHeartbeats 1600000 in
theorem digits_any (s : ByteArray) (w : World) (h : AllD s.data.toList) (hl : s.size ≤ 1000000) :
    Calls Tryz.prog 55 #[.string s] w fun e w' => ∃ v, e = .returned v ∧ Rd64 w' v (words (dval s.data.toList)) ∧ Below w.heap.size w w' := by
  go_enter Tryz.func55, Tryz.ntmps55
  go_wp2_with fail
  go_loopw [0, 3] (fun sv out wr => ∃ (t : ByteArray) (a : List UInt8), sv = .string t ∧ s.data.toList = a ++ t.data.toList ∧ Rd64 wr out (words (dval a)) ∧ Below w.heap.size w wr) (fun sv _ _ => strLen sv)
  case atStart => exact ⟨s, [], rfl, rfl, by rw [dval_nil, words_zero]; exact Rd64.nil _, Below.refl _ _⟩
  case round =>
    obtain ⟨t, a, rfl, hst, hout, hnx⟩ := hrel
    have hsz := ba_list t
    have hsz2 := ba_list s
    have hla : a.length + t.size = s.size := by rw [← hsz2, hst, List.length_append, hsz]
    have hda : AllD a := fun c hc => h c (by rw [hst]; exact List.mem_append_left _ hc)
    have hdt : AllD t.data.toList := fun c hc => h c (by rw [hst]; exact List.mem_append_right _ hc)
    by_cases h0 : t.size = 0
    · have hemp := ba_empty h0
      have hnil : t.data.toList = [] := by rw [← List.length_eq_zero_iff, hsz]; exact h0
      rw [hnil, List.append_nil] at hst
      have HST := Lib.hid hst
      have HOUT := Lib.hid hout
      clear hst hout hnil hsz hsz2 hla hda hdt h0
      go_wp2_with fail
      go_ret
      exact ⟨_, rfl, by rw [HST.out]; exact HOUT.out, hnx⟩
    · obtain ⟨k, hk⟩ : ∃ k : Nat, k = min 18 t.size := ⟨_, rfl⟩
      have hmin : min (18 : Int) (t.size : Int) = (k : Int) := by omega
      have hk0 : 0 < k := by omega
      have hk1 : k ≤ t.size := by omega
      have hk18 : k ≤ 18 := by omega
      have hemp := ba_full h0
      have hpl : (t.extract 0 k).size = k := by rw [← ba_list, ba_take, List.length_take, hsz]; omega
      have hpd : AllD (t.extract 0 k).data.toList := by rw [ba_take]; exact hdt.take k
      have hparse := digits_parse (t.extract 0 k) wr hpd (by omega) (by omega)
      rw [ba_take] at hparse
      have hdlt := dval_lt (hdt.take k)
      have hd64 : dval (t.data.toList.take k) < B64 := by
        refine Nat.lt_of_lt_of_le hdlt ?_
        refine Nat.le_trans (Nat.pow_le_pow_right (by omega) (show (t.data.toList.take k).length ≤ 18 by rw [List.length_take]; omega)) ?_
        rw [B64_def]; omega
      have hstep : dval (a ++ t.data.toList.take k) = dval a * 10 ^ k + dval (t.data.toList.take k) := by
        rw [dval_append, List.length_take, hsz, Nat.min_eq_left hk1]
      have hst2 : s.data.toList = (a ++ t.data.toList.take k) ++ (t.extract k t.size).data.toList := by rw [ba_drop, List.append_assoc, List.take_append_drop]; exact hst
      have hsz3 : (t.extract k t.size).size = t.size - k := by rw [← ba_list, ba_drop, List.length_drop, hsz]
      have hwl : (words (dval a)).length ≤ 1048576 := by have := words_dval hda s.size (by omega); omega
      have HST := Lib.hid hst2
      have HOUT := Lib.hid hout
      have HP := Lib.hid hparse
      have HSZ3 := Lib.hid hsz3
      have HSTEP := Lib.hid hstep
      generalize dval (t.data.toList.take k) = d at *
      clear hst hst2 hsz3 hout hla hsz hsz2 hk hpd hpl hparse hstep hdlt hda hdt h
      go_wp2_with fail
      refine HP.out.mono ?_
      rintro e w1 ⟨rfl, hb1⟩
      go_wp2_with fail
      go_loop [7, 21] (fun y i => ∃ j : Nat, j ≤ k ∧ y = .int .u64 ((10 ^ j : Nat) : Int) ∧ i = .int .i64 j) (fun _ i => k - (intOf i).toNat)
      case atStart => exact ⟨0, by omega, rfl, rfl⟩
      case round =>
        obtain ⟨j, hj, rfl, rfl⟩ := hrel
        by_cases hjk : j < k
        · have hlt : 10 ^ (j + 1) ≤ 10 ^ 18 := Nat.pow_le_pow_right (by omega) (by omega)
          obtain ⟨y, hy⟩ : ∃ y, y = 10 ^ j := ⟨_, rfl⟩
          rw [← hy]
          rw [Nat.pow_succ, ← hy] at hlt
          have HY := Lib.hid hy
          clear hy
          have hy1 : ((y : Nat) : Int) * 10 ≤ 1000000000000000000 := by omega
          clear hlt
          go_wp2_with fail
          go_round
          case rel => exact ⟨j + 1, by omega, by rw [Nat.pow_succ, ← HY.out, Int.natCast_mul]; rfl, by go_num⟩
          case measure => simp [intOf]; omega
        · have hjk2 : j = k := by omega
          subst hjk2
          have hlt : 10 ^ j ≤ 10 ^ 18 := Nat.pow_le_pow_right (by omega) (by omega)
          obtain ⟨y, hy⟩ : ∃ y, y = 10 ^ j := ⟨_, rfl⟩
          rw [← hy]
          rw [← hy] at hlt HSTEP
          clear hy
          have hyB : ((y : Nat) : Int) < B64 := by rw [B64_def]; omega
          have hdB : ((d : Nat) : Int) < B64 := by omega
          have htimes := times_int _ (dval a) (y : Int) (d : Int) w1.drew (HOUT.out.below hb1).drew (by omega) hyB (by omega) hdB hwl
          rw [Int.toNat_natCast, Int.toNat_natCast, ← HSTEP.out] at htimes
          have HT := Lib.hid htimes
          have hszI : ((j : Nat) : Int) ≤ (t.size : Int) := by omega
          clear htimes hlt hyB hdB hd64
          go_wp2_with fail
          go_region_with (go_at_call 77; refine HT.out.mono ?_; rintro e w2 ⟨v2, rfl, hr2, hb2⟩)
          have hb3 : Below w1.heap.size w1 w2 := (Below.refl _ _).drew.trans hb2
          refine ⟨?_, ?measure⟩
          · repeat apply Exists.intro
            refine ⟨?rel, rfl⟩
            exact ⟨t.extract j t.size, a ++ t.data.toList.take j, rfl, HST.out, hr2, Below.seq (Below.seq hnx hb1) hb3⟩
          case measure => have := HSZ3.out; show (t.extract j t.size).size < t.size; omega

end Go.Proofs.YteophaobcebppaaGreatDoor.dg
