/- The walks of large.Mul and Ten. Conditions: the lists are short enough to lie in memory. -/
import Derived.Test.YteophaobcebppaaGreatDoorNatG
import Derived.Deep.RegionHeld3
set_option linter.unusedSimpArgs false
namespace Go.Proofs.YteophaobcebppaaGreatDoor.dg
open Go.RowKit
set_option linter.unusedVariables false

theorem words_len_of_lt {n k : Nat} (h : n < B64 ^ k) : (words n).length ≤ k := words_length_lt h

theorem lt_pow_words (n : Nat) : n < B64 ^ (words n).length := by
  have := val_lt (small_words n); rw [val_words] at this; exact this

theorem Rd64.drew {w : World} {v : Value} {l : List Nat} (h : Rd64 w v l) : Rd64 w.drew v l := h
theorem Rd64.drewN {w : World} {v : Value} {l : List Nat} (h : Rd64 w v l) (n : Nat) : Rd64 (w.drewN n) v l := h
theorem cell_keep {w w' : World} {a : Addr} {v : Value} (hb : Below w.heap.size w w') (h : w.cell? a = some v) : w'.cell? a = some v := (hb.cell (World.block_lt_of_cell? w _ h)).trans h

theorem B64_pos' : (0 : Int) < B64 := by rw [B64_def]; omega
theorem e19 : (10000000000000000000 : Int).toNat = 10 ^ 19 := by decide +kernel
theorem e10 : (10 : Int).toNat = 10 := rfl
theorem e64 : 2 ^ (64 : Int).toNat = B64 := rfl

theorem times_int (va : Value) (A : Nat) (y m : Int) (w : World) (ha : Rd64 w va (words A)) (hy0 : 0 ≤ y) (hy : y < B64) (hm0 : 0 ≤ m) (hm : m < B64) (hlen : (words A).length ≤ 1048576) :
    Calls Tryz.prog 77 #[va, .int .u64 y, .int .u64 m] w fun e w' => ∃ v, e = .returned v ∧ Rd64 w' v (words (A * y.toNat + m.toNat)) ∧ Below w.heap.size w w' := by
  obtain ⟨y, rfl⟩ := Int.eq_ofNat_of_zero_le hy0
  obtain ⟨m, rfl⟩ := Int.eq_ofNat_of_zero_le hm0
  exact times_any va A y m w ha (by omega) (by omega) hlen

set_option maxHeartbeats 1600000 in
set_option maxRecDepth 100000 in
theorem mul_any (va vb : Value) (A B : Nat) (w : World) (ha : Rd64 w va (words A)) (hb : Rd64 w vb (words B)) (hl : (words A).length + (words B).length ≤ 1000000) :
    Calls Tryz.prog 38 #[va, vb] w fun e w' => ∃ v, e = .returned v ∧ Rd64 w' v (words (A * B)) ∧ Below w.heap.size w w' := by
  have hAlt := lt_pow_words A
  have sB := small_words B
  have EB := Lib.hid (val_words B)
  generalize words B = b at *
  obtain ⟨q, cb, rfl, hbc, hbm, hbp⟩ := hb
  simp only [maxLen] at hbm
  have hlA : (words A).length ≤ 1000000 := by omega
  have hlB : b.length ≤ 1000000 := by omega
  go_enter Tryz.func38, Tryz.ntmps38
  go_wp2_with fail
  go_loopw [5, 6] (fun out i wr => ∃ (j : Nat), j ≤ b.length ∧ i = .int .i64 ((j : Int) - 1) ∧ Rd64 wr out (words (A * val (b.drop j))) ∧ Below w.heap.size w wr) (fun _ i _ => (intOf i + 1).toNat)
  case atStart => exact ⟨b.length, Nat.le_refl _, rfl, by rw [List.drop_length]; simp only [val, Nat.mul_zero, words_zero]; exact Rd64.nil _, Below.refl _ _⟩
  case round =>
    obtain ⟨j, hj, rfl, hout, hnx⟩ := hrel
    by_cases hj0 : j = 0
    · subst hj0
      go_wp2_with fail
      go_ret
      refine ⟨_, rfl, ?_, hnx⟩
      rw [List.drop_zero, EB.out] at hout
      exact hout
    · obtain ⟨t, rfl⟩ : ∃ t, j = t + 1 := ⟨j - 1, by omega⟩
      have hj' : (((t + 1 : Nat) : Int) - 1) = t := by omega
      rw [hj']
      clear hj'
      obtain ⟨bb, ob, rfl, hcb⟩ := hbp (by rintro rfl; simp at hj)
      have cell1 : wr.cell? ⟨bb, ob + t, none⟩ = some (.int .u64 ((nth b t : Nat) : Int)) := (hnx.cell (World.block_lt_of_cell? w _ (hcb t (by omega)))).trans (hcb t (by omega))
      clear hcb hbp
      have hX : A * val (b.drop (t + 1)) < B64 ^ ((words A).length + b.length - (t + 1)) := by
        have h1 := val_lt (sB.drop (t + 1))
        rw [List.length_drop] at h1
        rw [show (words A).length + b.length - (t + 1) = (words A).length + (b.length - (t + 1)) from by omega, Nat.pow_add]
        exact Nat.mul_lt_mul'' hAlt h1
      have hlX : (words (A * val (b.drop (t + 1)))).length ≤ 1000000 := by have := words_len_of_lt hX; omega
      have hlX2 : (words (A * val (b.drop (t + 1)) * B64)).length ≤ 1048576 := by
        have : A * val (b.drop (t + 1)) * B64 < B64 ^ ((words A).length + b.length - (t + 1) + 1) := by
          rw [Nat.pow_succ]; exact Nat.mul_lt_mul_of_pos_right hX B64_pos
        have := words_len_of_lt this; omega
      have hlT : (words (A * nth b t)).length ≤ 1048576 := by
        have : A * nth b t < B64 ^ ((words A).length + 1) := by
          rw [Nat.pow_succ]; exact Nat.mul_lt_mul'' hAlt (sB.nth t)
        have := words_len_of_lt this; omega
      have hbt := sB.nth t
      have ha1 := Lib.hid (ha.below hnx)
      have HO := Lib.hid hout
      clear hout hX
      have hB0 := B64_pos
      have it0 : (0 : Int) ≤ (t : Nat) := by omega
      have it1 : ((t : Nat) : Int) < (b.length : Nat) := by omega
      go_wp2_with fail
      go_region_held3 (fun w' => w'.cell? ⟨bb, ob + t, none⟩ = some (.int .u64 ((nth b t : Nat) : Int))) (first | go_keep | (exact cell_keep hbA (by assumption)) | (exact cell_keep hbT (by assumption)) | (exact cell_keep hbL (by assumption))) (first
        | (go_at_call 71; refine (left_any _ (A * val (b.drop (t + 1))) 64 _ (by exact HO.out) (by omega) (by omega) (by omega)).mono ?_; rw [e64]; rintro e w1 ⟨v1, rfl, hr1, hfr1, hbL⟩)
        | (go_at_call 76; refine (add_any _ _ _ _ _ (hr1.below hbT) hr2 (by omega) (by omega)).mono ?_; rintro e w3 ⟨v3, rfl, hr3, hbA⟩)
        | (go_at_call 77; refine (times_int _ A _ _ _ (by exact ha1.out.drew.below hbL) (by omega) (by omega) (by omega) (by omega) (by omega)).mono ?_; simp only [Int.toNat_natCast, Int.toNat_zero, Nat.add_zero]; rintro e w2 ⟨v2, rfl, hr2, hbT⟩))
      have hb1 : Below wr.heap.size wr w1 := (Below.refl _ _).drew.trans hbL
      have hb2 : Below w.heap.size w w1 := hnx.trans (hb1.mono hnx.size)
      have hb3 : Below w.heap.size w w2 := hb2.trans (hbT.mono hb2.size)
      have hb4 : Below w.heap.size w w3 := hb3.trans (hbA.mono hb3.size)
      have e1 : A * val (b.drop (t + 1)) * B64 + A * nth b t = A * val (b.drop t) := by
        rw [val_drop (by omega : t < b.length), Nat.mul_add, Nat.mul_assoc, Nat.mul_comm B64, Nat.add_comm]
      rw [e1] at hr3
      go_wp2_with fail
      go_roundw
      case rel => exact ⟨t, by omega, rfl, hr3, hb4⟩
      case measure => simp [intOf]


set_option maxHeartbeats 1600000 in
set_option maxRecDepth 100000 in
theorem ten_any (n : Int) (w : World) (h0 : 0 ≤ n) (h1 : n ≤ 1000000) :
    Calls Tryz.prog 39 #[.int .i64 n] w fun e w' => ∃ v, e = .returned v ∧ Rd64 w' v (words (10 ^ n.toNat)) ∧ Below w.heap.size w w' := by
  obtain ⟨m, rfl⟩ := Int.eq_ofNat_of_zero_le h0
  rw [Int.toNat_natCast]
  have hlen : ∀ k : Nat, k ≤ m → (words (10 ^ k)).length ≤ 1048576 := fun k hk => by
    have : 10 ^ k < B64 ^ (k + 1) := Nat.lt_of_lt_of_le (Nat.pow_lt_pow_right (by omega) (Nat.lt_succ_self k)) (Nat.pow_le_pow_left (by rw [B64_def]; omega) _)
    have := words_len_of_lt this; omega
  have HLEN := Lib.hid hlen; clear hlen
  go_enter Tryz.func39, Tryz.ntmps39
  go_wp2_with fail
  refine (of_any 1 _ (by omega) (by rw [B64_def]; omega)).mono ?_
  rintro e w1 ⟨v1, rfl, hr1, hb1⟩
  go_wp2_with fail
  go_loopw [0, 3] (fun i out wr => ∃ (j k : Nat), j + k = m ∧ i = .int .i64 k ∧ Rd64 wr out (words (10 ^ j)) ∧ Below w.heap.size w wr) (fun i _ _ => (intOf i).toNat)
  case atStart => exact ⟨0, m, by omega, rfl, hr1, hb1⟩
  case round =>
    obtain ⟨j, k, hjk, rfl, hout, hnx⟩ := hrel
    have HJK := Lib.hid hjk
    have hkm : k ≤ 1000000 := by omega
    clear hjk
    by_cases hk : 19 ≤ k
    · go_wp2_with fail
      refine (times_int _ _ _ _ _ hout (by omega) (by rw [B64_def]; omega) (by omega) B64_pos' (HLEN.out j (by have := HJK.out; omega))).mono ?_
      rintro e w2 ⟨v2, rfl, hr2, hb2⟩
      have e1 : 10 ^ j * (10000000000000000000 : Int).toNat + (0 : Int).toNat = 10 ^ (j + 19) := by rw [Nat.pow_add, e19, Int.toNat_zero, Nat.add_zero]
      rw [e1] at hr2
      clear e1
      go_wp2_with fail
      go_roundw
      case rel => exact ⟨j + 19, k - 19, by have := HJK.out; omega, by go_num, hr2, hnx.trans (hb2.mono hnx.size)⟩
      case measure => simp [intOf]; omega
    · go_wp2_with fail
      obtain ⟨wo, rfl⟩ : ∃ wo : World, wo = wr := ⟨_, rfl⟩
      go_loopw [0, 3] (fun i out wr => ∃ (j k : Nat), j + k = m ∧ i = .int .i64 k ∧ Rd64 wr out (words (10 ^ j)) ∧ Below w.heap.size w wr) (fun i _ _ => (intOf i).toNat)
      case atStart => exact ⟨j, k, HJK.out, rfl, hout, hnx⟩
      case round =>
        obtain ⟨j, k, hjk, rfl, hout, hnx⟩ := hrel
        have HJK := Lib.hid hjk
        have hkm : k ≤ 1000000 := by omega
        clear hjk
        by_cases hk : 0 < k
        · go_wp2_with fail
          refine (times_int _ _ _ _ _ hout (by omega) (by rw [B64_def]; omega) (by omega) B64_pos' (HLEN.out j (by have := HJK.out; omega))).mono ?_
          rintro e w2 ⟨v2, rfl, hr2, hb2⟩
          have e1 : 10 ^ j * (10 : Int).toNat + (0 : Int).toNat = 10 ^ (j + 1) := by rw [Nat.pow_succ, e10, Int.toNat_zero, Nat.add_zero]
          rw [e1] at hr2
          clear e1
          go_wp2_with fail
          go_roundw
          case rel => exact ⟨j + 1, k - 1, by have := HJK.out; omega, by go_num, hr2, hnx.trans (hb2.mono hnx.size)⟩
          case measure => simp [intOf]; omega
        · have hj : j = m := by have := HJK.out; omega
          rw [hj] at hout
          clear hj
          go_wp2_with fail
          go_ret
          exact ⟨_, rfl, hout, hnx⟩

end Go.Proofs.YteophaobcebppaaGreatDoor.dg
