/- The walks of galleyref03.Digits, run, digits.Nearest's test. Conditions: the text can be held. -/
import Derived.Test.YteophaobcebppaaGreatDoorParse
import Derived.Test.YteophaobcebppaaGreatDoorRefI
import Derived.Test.YteophaobcebppaaGreatDoorRefH
set_option linter.unusedSimpArgs false
namespace Go.Proofs.YteophaobcebppaaGreatDoor.dg
open Go.RowKit
set_option linter.unusedVariables false

theorem isDB_iff (c : UInt8) : isDB c = true ↔ 48 ≤ c.toNat ∧ c.toNat ≤ 57 := by
  unfold isDB isD; simp only [Bool.and_eq_true, decide_eq_true_eq]; omega

instance (l : List UInt8) : Decidable (AllD l) := by unfold AllD; exact inferInstance

set_option maxHeartbeats 400000 in
theorem rdigits_any (s : ByteArray) (w : World) (hs : s.size ≤ 140737488355328) :
    Calls Tryz.prog 24 #[.string s] w fun e w' => e = .returned (.bool (decide (s.data.toList ≠ [] ∧ AllD s.data.toList))) ∧ w = w' := by
  have hsz := ba_list s
  obtain ⟨out, hout⟩ : ∃ out, out = decide (s.data.toList ≠ [] ∧ AllD s.data.toList) := ⟨_, rfl⟩
  rw [← hout]
  have HOUT := Lib.hid hout
  clear hout
  go_enter Tryz.func24, Tryz.ntmps24
  go_wp2_with fail
  go_loop [3] (fun i => ∃ k : Nat, k ≤ s.size ∧ i = .int .i64 k ∧ AllD (s.data.toList.take k)) (fun i => s.size - (intOf i).toNat)
  case atStart => exact ⟨0, by omega, rfl, fun c hc => by simp at hc⟩
  case round =>
    obtain ⟨k, hk, rfl, hall⟩ := hrel
    have HA := Lib.hid hall; clear hall
    by_cases hlt : k < s.size
    · have hb := s[k].toNat_lt
      have HC : Hid (s.data.toList[k]? = some s[k]) := Lib.hid (at_some s k hlt)
      by_cases h1 : ((s[k].toNat : Nat) : Int) < 48
      · have ho : out = false := by
          rw [HOUT.out]; refine decide_eq_false ?_
          rintro ⟨-, h⟩
          have := h s[k] (List.mem_of_getElem? HC.out)
          omega
        have HO := Lib.hid ho
        clear ho
        go_wp2_with fail
        go_ret
        exact ⟨by rw [HO.out]; rfl, rfl⟩
      · by_cases h2 : 57 < ((s[k].toNat : Nat) : Int)
        · have ho : out = false := by
            rw [HOUT.out]; refine decide_eq_false ?_
            rintro ⟨-, h⟩
            have := h s[k] (List.mem_of_getElem? HC.out)
            omega
          have HO := Lib.hid ho
          clear ho
          go_wp2_with fail
          go_ret
          exact ⟨by rw [HO.out]; rfl, rfl⟩
        · have hn : AllD (s.data.toList.take (k + 1)) := by
            rw [List.take_add_one, HC.out]
            refine HA.out.append ?_
            intro c hc
            simp at hc
            subst hc
            omega
          have HN := Lib.hid hn
          clear hn
          go_wp2_with fail
          go_round
          case rel => exact ⟨k + 1, by omega, by go_num, HN.out⟩
          case measure => simp [intOf]; omega
    · have hke : s.data.toList.take k = s.data.toList := List.take_of_length_le (by omega)
      have ho : out = decide (0 < s.size) := by
        rw [HOUT.out]
        have h := HA.out
        rw [hke] at h
        refine decide_eq_decide.2 ⟨fun a => ?_, fun a => ⟨fun e => ?_, h⟩⟩
        · have : s.data.toList.length ≠ 0 := fun e => a.1 (List.length_eq_zero_iff.1 e)
          omega
        · rw [e] at hsz; simp at hsz; omega
      have HO := Lib.hid ho
      clear ho hke
      go_wp2_with fail
      go_ret
      exact ⟨by rw [HO.out]; rfl, rfl⟩

set_option maxHeartbeats 400000 in
theorem rrun_any (s : ByteArray) (l : List UInt8) (hls : l = s.data.toList) (a : Int) (w : World) (hs : s.size ≤ 1073741823) (ha0 : 0 ≤ a) (ha1 : a ≤ s.size) :
    Calls Tryz.prog 65 #[.string s, .int .i64 a] w fun e w' => e = .returned (.int .i64 (runL (l.drop a.toNat))) ∧ w = w' := by
  obtain ⟨n, rfl⟩ := Int.eq_ofNat_of_zero_le ha0
  rw [Int.toNat_natCast]
  have hsz := ba_list s
  rw [← hls] at hsz
  have HLS := Lib.hid hls
  clear hls
  go_enter Tryz.func65, Tryz.ntmps65
  go_wp2_with fail
  go_loop [5] (fun i => ∃ k : Nat, n + k ≤ s.size ∧ i = .int .i64 k ∧ runL (l.drop n) = k + runL (l.drop (n + k))) (fun i => s.size - (intOf i).toNat)
  case atStart => exact ⟨0, by omega, rfl, by rw [Nat.add_zero, Nat.zero_add]⟩
  case round =>
    obtain ⟨k, hk, rfl, hr⟩ := hrel
    have HR := Lib.hid hr; clear hr
    by_cases hlt : n + k < s.size
    · have hb := s[n + k].toNat_lt
      have hl : l[n + k]'(by omega) = s[n + k] := by
        have h1 := at_some s (n + k) hlt
        rw [← HLS.out, List.getElem?_eq_getElem (by omega)] at h1
        exact Option.some.inj h1
      have hlI : ((n + k : Nat) : Int) = (n : Int) + k := by omega
      by_cases hd : isDB s[n + k] = true
      · obtain ⟨d1, d2⟩ := (isDB_iff _).1 hd
        have HS := Lib.hid (runL_step (l := l) (k := n + k) (by omega) (by rw [hl]; exact hd))
        have d1I : ¬ ((s[n + k].toNat : Nat) : Int) < 48 := by omega
        have d2I : ((s[n + k].toNat : Nat) : Int) ≤ 57 := by omega
        clear hl hd hlI
        go_wp2_with fail
        go_round
        case rel => exact ⟨k + 1, by omega, by go_num, by rw [HR.out, HS.out, Nat.add_assoc]; omega⟩
        case measure => simp [intOf]; omega
      · have hd' : isDB s[n + k] = false := by simpa using hd
        have HS := Lib.hid (runL_stop (l := l) (k := n + k) (by omega) (by rw [hl]; exact hd'))
        have hdn : s[n + k].toNat < 48 ∨ 57 < s[n + k].toNat := by
          have := mt (isDB_iff _).2 hd; omega
        clear hl hd hd' hlI
        rcases hdn with h1 | h1
        · have h1I : ((s[n + k].toNat : Nat) : Int) < 48 := by omega
          go_wp2_with fail
          go_ret
          exact ⟨ret_int (by rw [HR.out, HS.out, Nat.add_zero]), rfl⟩
        · have h1I : ¬ ((s[n + k].toNat : Nat) : Int) < 48 := by omega
          have h2I : ¬ ((s[n + k].toNat : Nat) : Int) ≤ 57 := by omega
          go_wp2_with fail
          go_ret
          exact ⟨ret_int (by rw [HR.out, HS.out, Nat.add_zero]), rfl⟩
    · have HS := Lib.hid (runL_end (l := l) (k := n + k) (by omega))
      have hnI : ¬ (n : Int) + (k : Int) < (s.size : Int) := by omega
      go_wp2_with fail
      go_ret
      exact ⟨ret_int (by rw [HR.out, HS.out, Nat.add_zero]), rfl⟩

end Go.Proofs.YteophaobcebppaaGreatDoor.dg
