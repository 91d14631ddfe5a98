/- The walks of large.Add and Sub. Conditions: the lists are short enough to lie in memory. -/
import Derived.Test.YteophaobcebppaaGreatDoorNatC
import Derived.Deep.DeepCutAuto
set_option linter.unusedSimpArgs false
namespace Go.Proofs.YteophaobcebppaaGreatDoor.dg
open Go.RowKit
set_option linter.unusedVariables false

theorem add_step {a b xs : List Nat} {k ca s c : Nat} (hk : k < a.length) (hx : xs.length = k) (hv : val xs + B64 ^ k * ca = val (a.take k) + val (b.take k)) (h : s + B64 * c = nth a k + nth b k + ca) :
    val (xs ++ [s]) + B64 ^ (k + 1) * c = val (a.take (k + 1)) + val (b.take (k + 1)) := by
  have hb : val (b.take (k + 1)) = val (b.take k) + B64 ^ k * nth b k := by
    by_cases h : k < b.length
    · exact val_take_succ h
    · rw [nth_beyond (by omega), List.take_of_length_le (by omega), List.take_of_length_le (by omega)]; simp
  rw [val_snoc, hx, val_take_succ hk, hb, Nat.pow_succ]
  have e : B64 ^ k * s + B64 ^ k * B64 * c = B64 ^ k * nth a k + B64 ^ k * nth b k + B64 ^ k * ca := by
    rw [Nat.mul_assoc, ← Nat.mul_add, h, Nat.mul_add, Nat.mul_add]
  generalize B64 ^ k * s = t1 at *
  generalize B64 ^ k * B64 * c = t2 at *
  generalize B64 ^ k * nth a k = t3 at *
  generalize B64 ^ k * nth b k = t4 at *
  generalize B64 ^ k * ca = t5 at *
  omega

theorem carry_le {x y z s c : Nat} (hx : x < B64) (hy : y < B64) (hz : z ≤ 1) (h : s + B64 * c = x + y + z) : c ≤ 1 := by
  have : B64 * c < B64 * 2 := by omega
  have := Nat.lt_of_mul_lt_mul_left this
  omega

set_option maxHeartbeats 1600000 in
set_option maxRecDepth 100000 in
theorem add_any (va vb : Value) (A B : Nat) (w : World) (ha : Rd64 w va (words A)) (hb : Rd64 w vb (words B)) (hlA : (words A).length ≤ 1048576) (hlB : (words B).length ≤ 1048576) :
    Calls Tryz.prog 76 #[va, vb] w fun e w' => ∃ v, e = .returned v ∧ Rd64 w' v (words (A + B)) ∧ Below w.heap.size w w' := by
  obtain ⟨i0, hi, hz0, hz1, hz2⟩ := info_parts info_u64
  obtain ⟨p, ca, rfl, hac, ham, hap⟩ := id ha
  obtain ⟨q, cb, rfl, hbc, hbm, hbp⟩ := id hb
  simp only [maxLen] at ham hbm
  have HA := Lib.hid ha
  have HB := Lib.hid hb
  clear ha hb hap hbp
  have eA := Lib.hid (val_words A)
  have eB := Lib.hid (val_words B)
  have sA := small_words A
  have sB := small_words B
  generalize words A = a at *
  generalize words B = b at *
  go_enter Tryz.func76, Tryz.ntmps76
  go_upto_if 15 with (fail)
  go_cut [0, 1] (fun x y wx => w = wx ∧ ∃ (a' b' : List Nat), Rd64 w x a' ∧ Rd64 w y b' ∧ b'.length ≤ a'.length ∧ a'.length ≤ 1048576 ∧ Small a' ∧ Small b' ∧ val a' + val b' = A + B)
  case first =>
    go_wp2_with fail
    · go_meet
      exact ⟨rfl, b, a, HB.out, HA.out, by omega, hlB, sB, sA, by rw [eA.out, eB.out]; omega⟩
    · go_meet
      exact ⟨rfl, a, b, HA.out, HB.out, by omega, hlA, sA, sB, by rw [eA.out, eB.out]⟩
  case rest =>
    obtain ⟨rfl, x, y, ⟨px, cx, rfl, hxc, hxm, hxp⟩, ⟨py, cy, rfl, hyc, hym, hyp⟩, hle, hlx, sx, sy, hxy⟩ := hcut
    have HXY := Lib.hid hxy; clear hxy
    simp only [maxLen] at hxm hym
    clear HA HB eA eB sA sB
    go_wp2_with (at_make; refine wpList_make_own _ rfl _ _ 63 rfl w.heap.size 27 i0 (.int .u64 0) 1 Tryz.underlying63 hi hz0 hz1 _ _ _ (x.length + 1) rfl rfl (by omega) ?b2 ?b3 (Nat.le_refl _) ?_)
    case b2 => rw [hz2]; omega
    case b3 => simp only [maxLen]; omega
    intro w0 hown0 hgrow0
    go_wp2_with fail
    go_loopw [5, 6, 24] (fun out m i wr => ∃ (k mo : Nat) (xs : List Nat), k ≤ x.length ∧ i = .int .i64 k ∧ m = .int .u64 mo ∧ mo ≤ 1 ∧ wr.ownsRow w.heap.size 27 1 out k (xs.map U64) ∧ Small xs ∧ val xs + B64 ^ k * mo = val (x.take k) + val (y.take k) ∧ Below w.heap.size w wr) (fun _ _ i _ => x.length - (intOf i).toNat)
    case atStart => exact ⟨0, 0, [], Nat.zero_le _, rfl, rfl, by omega, hown0, Small.nil, by simp [val], (Below.refl _ _).grown hgrow0 (Nat.le_refl _) (fun k h => by cases h)⟩
    case round =>
      obtain ⟨k, mo, xs, hk, rfl, rfl, hmo, hown, hsx, hv, hnx⟩ := hrel
      have HV := Lib.hid hv; clear hv
      have hxl : xs.length = k := by have := hown.1; simp at this; omega
      have HXL := Lib.hid hxl; clear hxl
      by_cases hlt : k < x.length
      · obtain ⟨bx, ox, rfl, hcx⟩ := hxp (by rintro rfl; simp at hlt)
        have cell1 : wr.cell? ⟨bx, ox + k, none⟩ = some (.int .u64 ((nth x k : Nat) : Int)) := (hnx.cell (World.block_lt_of_cell? w _ (hcx k hlt))).trans (hcx k hlt)
        clear hcx hxp
        go_upto_if 32 with (fail)
        go_cut [9] (fun v wx => wr = wx ∧ v = .int .u64 ((nth y k : Nat) : Int))
        case first =>
          by_cases hky : k < y.length
          · obtain ⟨by', oy, rfl, hcy⟩ := hyp (by rintro rfl; simp at hky)
            have cell2 : wr.cell? ⟨by', oy + k, none⟩ = some (.int .u64 ((nth y k : Nat) : Int)) := (hnx.cell (World.block_lt_of_cell? w _ (hcy k hky))).trans (hcy k hky)
            clear hcy
            go_wp2_with fail
            go_meet
            exact ⟨rfl, rfl⟩
          · have e0 : nth y k = 0 := nth_beyond (by omega)
            have E0 := Lib.hid e0; clear e0
            go_wp2_with fail
            go_meet
            exact ⟨rfl, by rw [E0.out]; rfl⟩
        case rest =>
          obtain ⟨rfl, rfl⟩ := hcut
          obtain ⟨s, c, hsm, hs, hadd⟩ := add64_call (nth x k) (nth y k) mo (by omega)
          have hc1 := carry_le (sx.nth k) (sy.nth k) hmo hsm
          have HS := Lib.hid hsm; clear hsm
          go_wp2_with (at_builtin; refine wpList_append_own _ rfl _ _ 63 rfl w.heap.size 27 i0 (.int .u64 0) 1 8 Tryz.underlying63 hi hz0 hz1 hz2 rfl (by decide) _ _ _ rfl (hown.alloc _) ⟨wr.heap.size, 0, none⟩ 1 1 [U64 s] rfl rfl ?c1 (u64_one s) ?c3 ?c4 ?c5 ?_)
          case c1 => exact cell_one_new _ _ _
          case c3 => simp only [maxLen]; omega
          case c4 => omega
          case c5 => have := hnx.size; simp; omega
          intro v' w1 hown1 hgrow _
          go_wp2_with fail
          go_roundw
          case rel =>
            exact ⟨k + 1, c, xs ++ [s], by omega, by go_num, rfl, hc1, by simpa using hown1, hsx.snoc hs, add_step hlt HXL.out HV.out HS.out, (hnx.alloc hnx.size _).grown hgrow (by simp; have := hnx.size; omega) (fun j hj => (hown.lt j hj).1)⟩
          case measure => simp [intOf]; omega
      · have hke : k = x.length := by omega
        have HKE := Lib.hid hke; clear hke
        go_wp2_with (at_builtin; refine wpList_append_own _ rfl _ _ 63 rfl w.heap.size 27 i0 (.int .u64 0) 1 8 Tryz.underlying63 hi hz0 hz1 hz2 rfl (by decide) _ _ _ rfl (hown.alloc _) ⟨wr.heap.size, 0, none⟩ 1 1 [U64 mo] rfl rfl ?c1 (u64_one mo) ?c3 ?c4 ?c5 ?_)
        case c1 => exact cell_one_new _ _ _
        case c3 => simp only [maxLen]; omega
        case c4 => omega
        case c5 => have := hnx.size; simp; omega
        intro v' w1 hown1 hgrow _
        have hmB : mo < B64 := by rw [B64_def]; omega
        have hrd : Rd64 w1 v' (xs ++ [mo]) := rd_of_owns (by simpa using hown1)
        go_wp2_with fail
        refine (trim_any _ _ _ (hsx.snoc hmB) hrd).mono ?_
        rintro e w' ⟨v2, rfl, hrd2, hfr2, rfl⟩
        go_wp2_with fail
        go_ret
        refine ⟨_, rfl, ?_, (hnx.alloc hnx.size _).grown hgrow (by simp; have := hnx.size; omega) (fun j hj => (hown.lt j hj).1)⟩
        have e1 : val (xs ++ [mo]) = A + B := by
          rw [val_snoc, HXL.out, HV.out, HKE.out, List.take_length, List.take_of_length_le hle]; exact HXY.out
        rw [← e1]
        exact hrd2

theorem sub_step {a b xs : List Nat} {k ca s c : Nat} (hk : k < a.length) (hx : xs.length = k) (hv : val xs + val (b.take k) = val (a.take k) + B64 ^ k * ca) (h : s + nth b k + ca = nth a k + B64 * c) :
    val (xs ++ [s]) + val (b.take (k + 1)) = val (a.take (k + 1)) + B64 ^ (k + 1) * c := by
  have hb : val (b.take (k + 1)) = val (b.take k) + B64 ^ k * nth b k := by
    by_cases h : k < b.length
    · exact val_take_succ h
    · rw [nth_beyond (by omega), List.take_of_length_le (by omega), List.take_of_length_le (by omega)]; simp
  rw [val_snoc, hx, val_take_succ hk, hb, Nat.pow_succ]
  have e : B64 ^ k * s + B64 ^ k * nth b k + B64 ^ k * ca = B64 ^ k * nth a k + B64 ^ k * B64 * c := by
    rw [Nat.mul_assoc, ← Nat.mul_add, ← Nat.mul_add, h, Nat.mul_add]
  generalize B64 ^ k * s = t1 at *
  generalize B64 ^ k * B64 * c = t2 at *
  generalize B64 ^ k * nth a k = t3 at *
  generalize B64 ^ k * nth b k = t4 at *
  generalize B64 ^ k * ca = t5 at *
  omega

set_option maxHeartbeats 1600000 in
set_option maxRecDepth 100000 in
theorem sub_any (va vb : Value) (A B : Nat) (w : World) (ha : Rd64 w va (words A)) (hb : Rd64 w vb (words B)) (hlA : (words A).length ≤ 1048576) (hBA : B ≤ A) :
    Calls Tryz.prog 43 #[va, vb] w fun e w' => ∃ v, e = .returned v ∧ Rd64 w' v (words (A - B)) ∧ Fr w.heap.size v ∧ Below w.heap.size w w' := by
  obtain ⟨i0, hi, hz0, hz1, hz2⟩ := info_parts info_u64
  have hle : (words B).length ≤ (words A).length := by
    rcases Nat.lt_or_ge (words A).length (words B).length with h | h
    · have := words_len_lt h; omega
    · exact h
  have eA := Lib.hid (val_words A)
  have eB := Lib.hid (val_words B)
  have sx := small_words A
  have sy := small_words B
  generalize words A = x at *
  generalize words B = y at *
  obtain ⟨px, cx, rfl, hxc, hxm, hxp⟩ := ha
  obtain ⟨py, cy, rfl, hyc, hym, hyp⟩ := hb
  simp only [maxLen] at hxm hym
  go_enter Tryz.func43, Tryz.ntmps43
  go_wp2_with (at_make; refine wpList_make_own _ rfl _ _ 63 rfl w.heap.size 27 i0 (.int .u64 0) 1 Tryz.underlying63 hi hz0 hz1 _ _ _ (x.length) rfl rfl (by omega) ?b2 ?b3 (Nat.le_refl _) ?_)
  case b2 => rw [hz2]; omega
  case b3 => simp only [maxLen]; omega
  intro w0 hown0 hgrow0
  go_wp2_with fail
  go_loopw [5, 6, 16] (fun out m i wr => ∃ (k mo : Nat) (xs : List Nat), k ≤ x.length ∧ i = .int .i64 k ∧ m = .int .u64 mo ∧ mo ≤ 1 ∧ wr.ownsRow w.heap.size 27 1 out k (xs.map U64) ∧ Small xs ∧ val xs + val (y.take k) = val (x.take k) + B64 ^ k * mo ∧ Below w.heap.size w wr) (fun _ _ i _ => x.length - (intOf i).toNat)
  case atStart => exact ⟨0, 0, [], Nat.zero_le _, rfl, rfl, by omega, hown0, Small.nil, by simp [val], (Below.refl _ _).grown hgrow0 (Nat.le_refl _) (fun k h => by cases h)⟩
  case round =>
    obtain ⟨k, mo, xs, hk, rfl, rfl, hmo, hown, hsx, hv, hnx⟩ := hrel
    have HV := Lib.hid hv; clear hv
    have hxl : xs.length = k := by have := hown.1; simp at this; omega
    have HXL := Lib.hid hxl; clear hxl
    by_cases hlt : k < x.length
    · obtain ⟨bx, ox, rfl, hcx⟩ := hxp (by rintro rfl; simp at hlt)
      have cell1 : wr.cell? ⟨bx, ox + k, none⟩ = some (.int .u64 ((nth x k : Nat) : Int)) := (hnx.cell (World.block_lt_of_cell? w _ (hcx k hlt))).trans (hcx k hlt)
      clear hcx hxp
      go_upto_if 24 with (fail)
      go_cut [9] (fun v wx => wr = wx ∧ v = .int .u64 ((nth y k : Nat) : Int))
      case first =>
        by_cases hky : k < y.length
        · obtain ⟨by', oy, rfl, hcy⟩ := hyp (by rintro rfl; simp at hky)
          have cell2 : wr.cell? ⟨by', oy + k, none⟩ = some (.int .u64 ((nth y k : Nat) : Int)) := (hnx.cell (World.block_lt_of_cell? w _ (hcy k hky))).trans (hcy k hky)
          clear hcy
          go_wp2_with fail
          go_meet
          exact ⟨rfl, rfl⟩
        · have e0 : nth y k = 0 := nth_beyond (by omega)
          have E0 := Lib.hid e0; clear e0
          go_wp2_with fail
          go_meet
          exact ⟨rfl, by rw [E0.out]; rfl⟩
      case rest =>
        obtain ⟨rfl, rfl⟩ := hcut
        obtain ⟨s, c, hsm, hs, hc1, hadd⟩ := sub64_call (nth x k) (nth y k) mo (by omega) (sx.nth k) (sy.nth k)
        have HS := Lib.hid hsm; clear hsm
        go_wp2_with (at_builtin; refine wpList_append_own _ rfl _ _ 63 rfl w.heap.size 27 i0 (.int .u64 0) 1 8 Tryz.underlying63 hi hz0 hz1 hz2 rfl (by decide) _ _ _ rfl (hown.alloc _) ⟨wr.heap.size, 0, none⟩ 1 1 [U64 s] rfl rfl ?c1 (u64_one s) ?c3 ?c4 ?c5 ?_)
        case c1 => exact cell_one_new _ _ _
        case c3 => simp only [maxLen]; omega
        case c4 => omega
        case c5 => have := hnx.size; simp; omega
        intro v' w1 hown1 hgrow _
        go_wp2_with fail
        go_roundw
        case rel =>
          exact ⟨k + 1, c, xs ++ [s], by omega, by go_num, rfl, hc1, by simpa using hown1, hsx.snoc hs, sub_step hlt HXL.out HV.out HS.out, (hnx.alloc hnx.size _).grown hgrow (by simp; have := hnx.size; omega) (fun j hj => (hown.lt j hj).1)⟩
        case measure => simp [intOf]; omega
    · have hke : k = x.length := by omega
      have HKE := Lib.hid hke; clear hke
      have hrd : Rd64 wr _ xs := rd_of_owns hown
      go_wp2_with fail
      refine (trim_any _ _ _ hsx hrd).mono ?_
      rintro e w' ⟨v2, rfl, hrd2, hfr2, rfl⟩
      go_wp2_with fail
      go_ret
      refine ⟨_, rfl, ?_, hfr2 _ (fr_of_owns hown), hnx⟩
      have h1 := HV.out
      rw [HKE.out, List.take_length, List.take_of_length_le hle, eA.out, eB.out] at h1
      have h2 := val_lt hsx
      rw [HXL.out, HKE.out] at h2
      have h3 : mo = 0 := by
        rcases Nat.eq_zero_or_pos mo with h | h
        · exact h
        · have : mo = 1 := by omega
          rw [this, Nat.mul_one] at h1; omega
      rw [h3, Nat.mul_zero] at h1
      have e1 : val xs = A - B := by omega
      rw [← e1]
      exact hrd2

end Go.Proofs.YteophaobcebppaaGreatDoor.dg
