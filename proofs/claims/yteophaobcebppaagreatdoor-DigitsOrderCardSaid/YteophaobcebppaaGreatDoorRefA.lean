/- The walks of galleyref03.trim, of, compare. Conditions: none beyond what each says. -/
import Derived.Test.YteophaobcebppaaGreatDoorRefA0
set_option linter.unusedSimpArgs false
namespace Go.Proofs.YteophaobcebppaaGreatDoor.dg
open Go.RowKit
set_option linter.unusedVariables false

/-- a slice at the same place. -/
def SameAt (v v' : Value) : Prop := ∀ p n c, v = .slice p n c → ∃ n' c', v' = .slice p n' c'
theorem SameAt.of (p : Option Addr) (n c n' c' : Nat) : SameAt (.slice p n c) (.slice p n' c') := fun q _ _ e => by
  simp only [Value.slice.injEq] at e
  rw [← e.1]; exact ⟨_, _, rfl⟩

/-- trim: the words of what the list is worth. -/
theorem rtrim_any (v : Value) (l : List Nat) (w : World) (hs : Sml l) (h : Rd32 w v l) :
    Calls Tryz.prog 93 #[v] w fun e w' => ∃ v', e = .returned v' ∧ Rd32 w v' (wds (vl l)) ∧ (∀ B, Fr B v → Fr B v') ∧ SameAt v v' ∧ w = w' := by
  obtain ⟨p, cap, rfl, hlc, hcm, hp⟩ := id h
  have hm : l.length ≤ 9223372036854775807 := by simp only [maxLen] at hcm; omega
  have H := Lib.hid h
  clear h
  go_enter Tryz.func93, Tryz.ntmps93
  go_wp2
  go_loop [3] (fun t => ∃ k : Nat, k ≤ l.length ∧ t = .int .i64 k ∧ vl (l.take k) = vl l) (fun t => (intOf t).toNat)
  case atStart => exact ⟨l.length, Nat.le_refl _, rfl, by rw [List.take_length]⟩
  case round =>
    obtain ⟨k, hk, rfl, hv⟩ := hrel
    have HV := Lib.hid hv; clear hv
    have hcap : k ≤ cap := by omega
    by_cases hk0 : k = 0
    · subst hk0
      go_wp2_with fail
      go_ret
      have e0 : vl l = 0 := by rw [← HV.out]; rfl
      refine ⟨_, rfl, ?_, fun B hB => hB.len, SameAt.of _ _ _ _ _, rfl⟩
      rw [e0, wds_zero]
      exact (H.out).take 0 (by omega)
    · obtain ⟨b, off, rfl, hc⟩ := hp (by rintro rfl; simp at hk; omega)
      obtain ⟨j, rfl⟩ : ∃ j, k = j + 1 := ⟨k - 1, by omega⟩
      have hcell := hc j (by omega)
      have HC := Lib.hid hc; clear hc
      have hj : (((j + 1 : Nat) : Int) - 1) = j := by omega
      by_cases hz : nth l j = 0
      · rw [hz] at hcell
        have HV2 := Lib.hid (vl_take_succ (l := l) (k := j) (by omega))
        have HZ := Lib.hid hz; clear hz
        go_wp2_with fail
        go_round
        case rel => exact ⟨j, by omega, by go_num, by rw [← HV.out, HV2.out, HZ.out]; simp⟩
        case measure => simp [intOf]
      · have hb : ((((nth l j : Nat) : Int)) == 0) = false := by simpa using hz
        have HZ := Lib.hid hz; clear hz
        have HT := Lib.hid ((H.out).take (j + 1) (by omega))
        go_wp2_with fail
        go_ret
        refine ⟨_, rfl, ?_, fun B hB => hB.len, SameAt.of _ _ _ _ _, rfl⟩
        have hw : wds (vl l) = l.take (j + 1) := by
          rw [← HV.out]
          refine wds_vl (hs.take _) (Or.inr ?_)
          have hl : (l.take (j + 1)).length = j + 1 := by rw [List.length_take]; omega
          rw [hl, Nat.add_sub_cancel, nth_take (by omega)]
          exact HZ.out
        rw [hw]
        exact HT.out

theorem rof_any (n : Int) (w : World) (h0 : 0 ≤ n) (h1 : n < B64) :
    Calls Tryz.prog 48 #[.int .u64 n] w fun e w' => ∃ v, e = .returned v ∧ Rd32 w' v (wds n.toNat) ∧ Below w.heap.size w w' := by
  obtain ⟨m, rfl⟩ := Int.eq_ofNat_of_zero_le h0
  rw [Int.toNat_natCast]
  go_enter Tryz.func48, Tryz.ntmps48
  go_wp2_with fail
  refine (rtrim_any _ [m % 4294967296, m / 4294967296 % 4294967296] _ ?_ ?_).mono ?_
  · intro x hx
    rw [B32_def]
    simp only [List.mem_cons, List.not_mem_nil, or_false] at hx
    rcases hx with rfl | rfl <;> exact Nat.mod_lt _ (by omega)
  · refine ⟨_, 2, rfl, by simp, by simp [maxLen], fun _ => ⟨w.heap.size, 0, rfl, fun i hi => ?_⟩⟩
    have hi2 : i = 0 ∨ i = 1 := by simp at hi; omega
    rcases hi2 with rfl | rfl
    · rw [World.cell?_alloc_at _ _ _ _ rfl]; rfl
    · rw [World.cell?_alloc_at _ _ _ _ rfl]; rfl
  · rintro e w1 ⟨v, rfl, hv, -, -, rfl⟩
    have hval : vl [m % 4294967296, m / 4294967296 % 4294967296] = m := by
      simp only [vl, B32_def]
      rw [B64_def] at h1
      omega
    rw [hval] at hv
    have HV := Lib.hid hv
    clear hv hval
    go_wp2_with fail
    go_ret
    exact ⟨_, rfl, HV.out, (Below.refl _ _).alloc (Nat.le_refl _) _⟩

set_option maxHeartbeats 800000 in
theorem rcmp_any (va vb : Value) (A B : Nat) (w : World) (ha : Rd32 w va (wds A)) (hb : Rd32 w vb (wds B)) :
    Calls Tryz.prog 91 #[va, vb] w fun e w' => ∃ r : Int, e = .returned (.int .i64 r) ∧ Stand r A B ∧ ∃ n, w' = w.drewN n := by
  have sa := sml_wds A
  have sb := sml_wds B
  have eA := vl_wds A
  have eB := vl_wds B
  have hlt1 : (wds A).length < (wds B).length → A < B := wds_len_lt
  have hlt2 : (wds B).length < (wds A).length → B < A := wds_len_lt
  generalize wds A = a at *
  generalize wds B = b at *
  obtain ⟨p, ca, rfl, hac, ham, hap⟩ := ha
  obtain ⟨q, cb, rfl, hbc, hbm, hbp⟩ := hb
  simp only [maxLen] at ham hbm
  by_cases hl : a.length = b.length
  · have hb0 : (((a.length : Nat) : Int) != (b.length : Nat)) = false := by simp [hl]
    have HL : b.length = a.length := hl.symm
    have hl2 := HL
    rw [HL] at hb0 ⊢
    rw [HL] at hbc
    clear hl HL
    have HE0 := Lib.hid hl2; clear hl2
    have HE : Hid (b.length = a.length) := HE0
    go_enter Tryz.func91, Tryz.ntmps91
    go_wp2_with fail
    go_loopw [5] (fun t wr => ∃ k : Nat, k ≤ a.length ∧ t = .int .i64 ((k : Int) - 1) ∧ a.drop k = b.drop k ∧ ∃ n, wr = w.drewN n) (fun t _ => (intOf t + 1).toNat)
    case atStart => exact ⟨a.length, Nat.le_refl _, rfl, by rw [List.drop_length, ← HE.out, List.drop_length], 0, rfl⟩
    case round =>
      obtain ⟨k, hk, rfl, hd, n, rfl⟩ := hrel
      have HD := Lib.hid hd; clear hd
      by_cases hk0 : k = 0
      · subst hk0
        go_wp2_with fail
        go_ret
        have e : a = b := by have := HD.out; simpa using this
        have e2 : A = B := by rw [← eA, ← eB, e]
        exact ⟨0, rfl, ⟨by omega, by omega⟩, n, rfl⟩
      · obtain ⟨j, rfl⟩ : ∃ j, k = j + 1 := ⟨k - 1, by omega⟩
        have hj : (((j + 1 : Nat) : Int) - 1) = j := by omega
        rw [hj]
        clear hj
        obtain ⟨ba, oa, rfl, hca⟩ := hap (by rintro rfl; simp at hk)
        obtain ⟨bb, ob, rfl, hcb⟩ := hbp (by rintro rfl; have := HE.out; simp at this; omega)
        have c1 := hca j (by omega)
        have c2 := hcb j (by rw [HE.out]; omega)
        clear hca hcb
        have hcmp : nth a j < nth b j ∨ nth b j < nth a j ∨ nth a j = nth b j := by omega
        rcases hcmp with h | h | h
        · have hA : A < B := by rw [← eA, ← eB]; exact vl_lt_of_top sa HE.out.symm (by omega) HD.out h
          have t1 : ((nth a j : Nat) : Int) < (nth b j : Nat) := by omega
          go_wp2_with fail
          go_quiet (fail)
          go_wp2_with fail
          go_ret
          exact ⟨-1, rfl, ⟨by omega, by omega⟩, _, by first | rfl | (simp only [World.drewN_drewN]; rfl)⟩
        · have hA : B < A := by rw [← eA, ← eB]; exact vl_lt_of_top sb HE.out (by rw [HE.out]; omega) HD.out.symm h
          have t1 : ((nth b j : Nat) : Int) < (nth a j : Nat) := by omega
          go_wp2_with fail
          go_quiet (fail)
          go_wp2_with fail
          go_quiet (fail)
          go_wp2_with fail
          go_ret
          exact ⟨1, rfl, ⟨by omega, by omega⟩, _, by first | rfl | (simp only [World.drewN_drewN]; rfl)⟩
        · have HN := Lib.hid (drop_succ_eq HE.out.symm (by omega) HD.out h)
          rw [← h] at c2
          clear h
          go_wp2_with fail
          go_quiet (fail)
          go_wp2_with fail
          go_quiet (fail)
          go_wp2_with fail
          go_roundw
          case rel => exact ⟨j, by omega, rfl, HN.out, _, by first | rfl | (simp only [World.drewN_drewN]; rfl)⟩
          case measure => simp [intOf]
  · have hb0 : (((a.length : Nat) : Int) != (b.length : Nat)) = true := by simp; omega
    by_cases h : a.length < b.length
    · have := hlt1 h
      go_enter Tryz.func91, Tryz.ntmps91
      go_wp2_with fail
      go_ret
      exact ⟨_, rfl, ⟨by omega, by omega⟩, 0, rfl⟩
    · have := hlt2 (by omega)
      go_enter Tryz.func91, Tryz.ntmps91
      go_wp2_with fail
      go_ret
      exact ⟨_, rfl, ⟨by omega, by omega⟩, 0, rfl⟩

end Go.Proofs.YteophaobcebppaaGreatDoor.dg
