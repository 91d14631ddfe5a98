/- The walks of digits.digit, run: the digits that a text begins with. Conditions: the text can be held. -/
import Derived.Test.YteophaobcebppaaGreatDoorNatA
set_option linter.unusedSimpArgs false
namespace Go.Proofs.YteophaobcebppaaGreatDoor.dg
open Go.RowKit
set_option linter.unusedVariables false

/-- is a byte a digit? -/
def isD (c : Int) : Bool := decide (48 ≤ c) && decide (c ≤ 57)

theorem digit_any (c : Int) (h0 : 0 ≤ c) (h1 : c ≤ 255) (w : World) :
    Calls Tryz.prog 52 #[.int .u8 c] w fun e w' => e = .returned (.bool (isD c)) ∧ w = w' := by
  go_enter Tryz.func52, Tryz.ntmps52
  go_wp2
  all_goals go_ret
  · rename_i h; exact ⟨by simp [isD, h], rfl⟩
  · rename_i h; exact ⟨by have : ¬ (48 ≤ c) := by omega
                          simp [isD, this], rfl⟩
theorem digit_yes (c : Int) (h0 : 0 ≤ c) (h1 : c ≤ 255) (h : isD c = true) (w : World) :
    Calls Tryz.prog 52 #[.int .u8 c] w fun e w' => e = .returned (.bool true) ∧ w = w' := by
  have := digit_any c h0 h1 w; rw [h] at this; exact this
theorem digit_no (c : Int) (h0 : 0 ≤ c) (h1 : c ≤ 255) (h : isD c = false) (w : World) :
    Calls Tryz.prog 52 #[.int .u8 c] w fun e w' => e = .returned (.bool false) ∧ w = w' := by
  have := digit_any c h0 h1 w; rw [h] at this; exact this

def isDB (c : UInt8) : Bool := isD c.toNat
/-- how many digits a list begins with. -/
def runL (l : List UInt8) : Nat := (l.takeWhile isDB).length

theorem runL_step {l : List UInt8} {k : Nat} (h : k < l.length) (hd : isDB l[k] = true) : runL (l.drop k) = 1 + runL (l.drop (k + 1)) := by
  unfold runL
  rw [List.drop_eq_getElem_cons h, List.takeWhile_cons, if_pos hd, List.length_cons]; omega
theorem runL_stop {l : List UInt8} {k : Nat} (h : k < l.length) (hd : isDB l[k] = false) : runL (l.drop k) = 0 := by
  unfold runL
  rw [List.drop_eq_getElem_cons h, List.takeWhile_cons, if_neg (by rw [hd]; decide)]; rfl
theorem runL_end {l : List UInt8} {k : Nat} (h : l.length ≤ k) : runL (l.drop k) = 0 := by
  rw [List.drop_eq_nil_of_le h]; rfl
theorem runL_le (l : List UInt8) : runL l ≤ l.length := by
  unfold runL; exact List.Sublist.length_le (List.takeWhile_sublist _)

set_option maxHeartbeats 400000 in
theorem run_any (s : ByteArray) (a : Int) (w : World) (hs : s.size ≤ maxLen) (ha0 : 0 ≤ a) (ha1 : a ≤ s.size) :
    Calls Tryz.prog 27 #[.string s, .int .i64 a] w fun e w' => e = .returned (.int .i64 (runL (s.data.toList.drop a.toNat))) ∧ w = w' := by
  unfold maxLen at hs
  obtain ⟨n, rfl⟩ := Int.eq_ofNat_of_zero_le ha0
  rw [Int.toNat_natCast]
  have hsz : s.data.toList.length = s.size := by simp
  go_enter Tryz.func27, Tryz.ntmps27
  go_wp2
  go_loop [5] (fun i => ∃ k : Nat, n ≤ k ∧ k ≤ s.size ∧ i = .int .i64 k ∧ runL (s.data.toList.drop n) = (k - n) + runL (s.data.toList.drop k)) (fun i => s.size - (intOf i).toNat)
  case atStart => exact ⟨n, by omega, by omega, rfl, by omega⟩
  case round =>
    obtain ⟨k, hk0, hk, rfl, hr⟩ := hrel
    have HR := Lib.hid hr; clear hr
    by_cases hlt : k < s.size
    · by_cases hd : isD (s[k].toNat) = true
      · have HS := Lib.hid (runL_step (l := s.data.toList) (k := k) (by omega) hd)
        go_wp2_with (go_at_call 52; refine (digit_yes _ (by omega) (by have := s[k].toNat_lt; omega) hd _).mono ?_; rintro e w' ⟨rfl, rfl⟩)
        go_round
        case rel => exact ⟨k + 1, by omega, by omega, by go_num, by rw [HR.out, HS.out]; omega⟩
        case measure => simp [intOf]; omega
      · have hd : isD (s[k].toNat) = false := by simpa using hd
        have HS := Lib.hid (runL_stop (l := s.data.toList) (k := k) (by omega) hd)
        go_wp2_with (go_at_call 52; refine (digit_no _ (by omega) (by have := s[k].toNat_lt; omega) hd _).mono ?_; rintro e w' ⟨rfl, rfl⟩)
        go_ret
        exact ⟨ret_int (by rw [HR.out, HS.out]; omega), rfl⟩
    · have HS := Lib.hid (runL_end (l := s.data.toList) (k := k) (by omega))
      go_wp2_with fail
      go_ret
      exact ⟨ret_int (by rw [HR.out, HS.out]; omega), rfl⟩

end Go.Proofs.YteophaobcebppaaGreatDoor.dg
