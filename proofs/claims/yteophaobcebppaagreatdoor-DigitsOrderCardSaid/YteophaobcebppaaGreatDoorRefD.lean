/- The walks of galleyref03.less, plus. Conditions: the lists are short enough to lie in memory. -/
import Derived.Test.YteophaobcebppaaGreatDoorRefC
set_option linter.unusedSimpArgs false
namespace Go.Proofs.YteophaobcebppaaGreatDoor.dg
open Go.RowKit
set_option linter.unusedVariables false

theorem vl_take_next (l : List Nat) (k : Nat) : vl (l.take (k + 1)) = vl (l.take k) + B32 ^ k * nth l k := by
  rcases Nat.lt_or_ge k l.length with h | h
  · exact vl_take_succ h
  · rw [List.take_of_length_le h, List.take_of_length_le (by omega), nth_beyond h, Nat.mul_zero, Nat.add_zero]

theorem rsub_step {a b xs : List Nat} {k be s be2 : Nat} (hx : xs.length = k) (hv : vl xs + vl (b.take k) = vl (a.take k) + B32 ^ k * be) (h : s + nth b k + be = nth a k + B32 * be2) :
    vl (xs ++ [s]) + vl (b.take (k + 1)) = vl (a.take (k + 1)) + B32 ^ (k + 1) * be2 := by
  rw [vl_snoc, hx, vl_take_next, vl_take_next, Nat.pow_succ, Nat.mul_assoc]
  have e1 : B32 ^ k * s + B32 ^ k * nth b k + B32 ^ k * be = B32 ^ k * nth a k + B32 ^ k * (B32 * be2) := by
    rw [← Nat.mul_add, ← Nat.mul_add, h, Nat.mul_add]
  omega

theorem radd_step {a b xs : List Nat} {k c s c2 : Nat} (hx : xs.length = k) (hv : vl xs + B32 ^ k * c = vl (a.take k) + vl (b.take k)) (h : s + B32 * c2 = c + nth a k + nth b k) :
    vl (xs ++ [s]) + B32 ^ (k + 1) * c2 = vl (a.take (k + 1)) + vl (b.take (k + 1)) := by
  rw [vl_snoc, hx, vl_take_next, vl_take_next, Nat.pow_succ, Nat.mul_assoc]
  have e1 : B32 ^ k * s + B32 ^ k * (B32 * c2) = B32 ^ k * c + B32 ^ k * nth a k + B32 ^ k * nth b k := by
    rw [← Nat.mul_add, ← Nat.mul_add, ← Nat.mul_add, h]
  omega

set_option maxHeartbeats 1600000 in
set_option maxRecDepth 100000 in
theorem rless_any (va vb : Value) (A B : Nat) (w : World) (ha : Rd32 w va (wds A)) (hb : Rd32 w vb (wds B)) (hlA : (wds A).length ≤ 2097152) (hBA : B ≤ A) :
    Calls Tryz.prog 92 #[va, vb] w fun e w' => ∃ v, e = .returned v ∧ Rd32 w' v (wds (A - B)) ∧ Below w.heap.size w w' := by
  have hle : (wds B).length ≤ (wds A).length := by
    rcases Nat.lt_or_ge (wds A).length (wds B).length with h | h
    · have := wds_len_lt h; omega
    · exact h
  have sa := sml_wds A
  have sb := sml_wds B
  have eA := vl_wds A
  have eB := vl_wds B
  generalize wds A = a at *
  generalize wds B = b at *
  obtain ⟨p, ca, rfl, hac, ham, hap⟩ := ha
  obtain ⟨q, cb, rfl, hbc, hbm, hbp⟩ := hb
  simp only [maxLen] at ham hbm
  have EA := Lib.hid eA; have EB := Lib.hid eB
  clear eA eB
  obtain ⟨i0, hi, hz0, hz1, hz2⟩ := info_parts info_u32
  go_enter Tryz.func92, Tryz.ntmps92
  go_wp2_with fail
  have hown0 : (w.alloc (.cells #[] 106)).ownsRow w.heap.size 106 1 (.slice (some ⟨w.heap.size, 0, none⟩) 0 0) 0 (List.map U32 []) := World.ownsRow_made w #[] 0 (Nat.le_refl _) (Nat.zero_le _) rfl
  go_loopw [5, 6, 7] (fun out m i wr => ∃ (k be : Nat) (xs : List Nat), k ≤ a.length ∧ i = .int .i64 k ∧ m = .int .i64 (-(be : Int)) ∧ be ≤ 1 ∧ wr.ownsRow w.heap.size 106 1 out k (xs.map U32) ∧ Sml xs ∧ vl xs + vl (b.take k) = vl (a.take k) + B32 ^ k * be ∧ Below w.heap.size w wr) (fun _ _ i _ => a.length - (intOf i).toNat)
  case atStart => exact ⟨0, 0, [], Nat.zero_le _, rfl, rfl, by omega, hown0, Sml.nil, by simp [vl], (Below.refl _ _).alloc (Nat.le_refl _) _⟩
  case round =>
    obtain ⟨k, be, xs, hk, rfl, rfl, hbe, hown, hsx, hv, hnx⟩ := hrel
    have HV := Lib.hid hv; clear hv
    have hxl : xs.length = k := by have := hown.1; simp at this; omega
    have HXL := Lib.hid hxl; clear hxl
    by_cases hlt : k < a.length
    · obtain ⟨ba, oa, rfl, hca⟩ := hap (by rintro rfl; simp at hlt)
      have cell1 : wr.cell? ⟨ba, oa + k, none⟩ = some (.int .u32 ((nth a k : Nat) : Int)) := (hnx.cell (World.block_lt_of_cell? w _ (hca k hlt))).trans (hca k hlt)
      have hx := sa.nth k
      have hy := sb.nth k
      rw [B32_def] at hx hy
      have HSTEP : Hid (∀ s be2 : Nat, s + nth b k + be = nth a k + B32 * be2 → vl (xs ++ [s]) + vl (b.take (k + 1)) = vl (a.take (k + 1)) + B32 ^ (k + 1) * be2) := Lib.hid fun s c2 h => rsub_step HXL.out HV.out h
      -- the digit and the borrow
      obtain ⟨T, hT⟩ : ∃ T : Int, T = -(be : Int) + ((nth a k : Nat) : Int) - ((nth b k : Nat) : Int) := ⟨_, rfl⟩
      obtain ⟨s, hs⟩ : ∃ s : Nat, T % 4294967296 = (s : Int) := ⟨(T % 4294967296).toNat, by omega⟩
      obtain ⟨be2, hbe2⟩ : ∃ be2 : Nat, T / 4294967296 = -(be2 : Int) := ⟨(-(T / 4294967296)).toNat, by omega⟩
      have hs1 : s < 4294967296 := by omega
      have hbe1 : be2 ≤ 1 := by omega
      have hfin : s + nth b k + be = nth a k + B32 * be2 := by rw [B32_def]; omega
      have HFIN := Lib.hid hfin
      have hwx : IntKind.i64.wrap ((nth a k : Nat) : Int) = ((nth a k : Nat) : Int) := by rw [IntKind.wrap_i64]; omega
      have hTI : -4294967296 ≤ T ∧ T ≤ 4294967295 := by omega
      by_cases hkb : k < b.length
      · obtain ⟨bb, ob, rfl, hcb⟩ := hbp (by rintro rfl; simp at hkb)
        have cell2 : wr.cell? ⟨bb, ob + k, none⟩ = some (.int .u32 ((nth b k : Nat) : Int)) := (hnx.cell (World.block_lt_of_cell? w _ (hcb k hkb))).trans (hcb k hkb)
        have hT2 : -(be : Int) + ((nth a k : Nat) : Int) - ((nth b k : Nat) : Int) = T := hT.symm
        clear hT hfin
        go_wp2_with (at_builtin; refine wpList_append_own _ rfl _ _ 77 rfl w.heap.size 106 i0 (.int .u32 0) 1 4 Tryz.underlying77 hi hz0 hz1 hz2 rfl (by decide) _ _ _ rfl (hown.alloc _) ⟨wr.heap.size, 0, none⟩ 1 1 [U32 s] rfl rfl ?c1 (u32_one s) ?c3 ?c4 ?c5 ?_)
        case c1 => exact cell_one_new _ _ _
        case c3 => simp only [maxLen]; omega
        case c4 => omega
        case c5 => have := hnx.size; simp; omega
        intro v' w1 hown1 hgrow _
        go_wp2_with fail
        go_roundw
        case rel => exact ⟨k + 1, be2, xs ++ [s], by omega, by go_num, by rw [← hbe2], by omega, by simpa using hown1, hsx.snoc (by rw [B32_def]; omega), HSTEP.out _ _ HFIN.out, (hnx.alloc hnx.size _).grown hgrow (by simp; have := hnx.size; omega) (fun j hj => (hown.lt j hj).1)⟩
        case measure => simp [intOf]; omega
      · have hz : nth b k = 0 := nth_beyond (by omega)
        have hT2 : -(be : Int) + ((nth a k : Nat) : Int) = T := by rw [hT, hz]; omega
        clear hT hfin
        go_wp2_with (at_builtin; refine wpList_append_own _ rfl _ _ 77 rfl w.heap.size 106 i0 (.int .u32 0) 1 4 Tryz.underlying77 hi hz0 hz1 hz2 rfl (by decide) _ _ _ rfl (hown.alloc _) ⟨wr.heap.size, 0, none⟩ 1 1 [U32 s] rfl rfl ?c1 (u32_one s) ?c3 ?c4 ?c5 ?_)
        case c1 => exact cell_one_new _ _ _
        case c3 => simp only [maxLen]; omega
        case c4 => omega
        case c5 => have := hnx.size; simp; omega
        intro v' w1 hown1 hgrow _
        go_wp2_with fail
        go_roundw
        case rel => exact ⟨k + 1, be2, xs ++ [s], by omega, by go_num, by rw [← hbe2], by omega, by simpa using hown1, hsx.snoc (by rw [B32_def]; omega), HSTEP.out _ _ HFIN.out, (hnx.alloc hnx.size _).grown hgrow (by simp; have := hnx.size; omega) (fun j hj => (hown.lt j hj).1)⟩
        case measure => simp [intOf]; omega
    · skip
      have hke : k = a.length := by omega
      have hxB := vl_lt hsx
      have hv := HV.out
      have htk : b.take k = b := List.take_of_length_le (by omega)
      rw [htk, hke, List.take_length, EA.out, EB.out] at hv
      rw [HXL.out, hke] at hxB
      have hbe0 : be = 0 := by
        rcases Nat.eq_zero_or_pos be with h | h
        · exact h
        · have : be = 1 := by omega
          subst this
          rw [Nat.mul_one] at hv; omega
      rw [hbe0, Nat.mul_zero, Nat.add_zero] at hv
      have hxv : vl xs = A - B := by omega
      have htr := rtrim_any _ _ _ hsx (rd_of_owns32 hown)
      rw [hxv] at htr
      have HTR := Lib.hid htr
      clear htr hv hxv hxB hbe0 htk hke
      go_wp2_with fail
      refine HTR.out.mono ?_
      rintro e w' ⟨v2, rfl, hrd2, -, -, rfl⟩
      go_wp2_with fail
      go_ret
      exact ⟨_, rfl, hrd2, hnx⟩

set_option maxHeartbeats 1600000 in
set_option maxRecDepth 100000 in
theorem rplus_any (va vb : Value) (A B : Nat) (w : World) (ha : Rd32 w va (wds A)) (hb : Rd32 w vb (wds B)) (hlA : (wds A).length ≤ 2097152) (hlB : (wds B).length ≤ 2097152) :
    Calls Tryz.prog 122 #[va, vb] w fun e w' => ∃ v, e = .returned v ∧ Rd32 w' v (wds (A + B)) ∧ Below w.heap.size w w' := by
  have sa := sml_wds A
  have sb := sml_wds B
  have eA := vl_wds A
  have eB := vl_wds B
  generalize wds A = a at *
  generalize wds B = b at *
  obtain ⟨p, ca, rfl, hac, ham, hap⟩ := ha
  obtain ⟨q, cb, rfl, hbc, hbm, hbp⟩ := hb
  simp only [maxLen] at ham hbm
  have EA := Lib.hid eA; have EB := Lib.hid eB
  clear eA eB
  obtain ⟨i0, hi, hz0, hz1, hz2⟩ := info_parts info_u32
  go_enter Tryz.func122, Tryz.ntmps122
  go_wp2_with fail
  have hown0 : (w.alloc (.cells #[] 106)).ownsRow w.heap.size 106 1 (.slice (some ⟨w.heap.size, 0, none⟩) 0 0) 0 (List.map U32 []) := World.ownsRow_made w #[] 0 (Nat.le_refl _) (Nat.zero_le _) rfl
  go_loopw [5, 6, 7] (fun out m i wr => ∃ (k c : Nat) (xs : List Nat), (k ≤ a.length ∨ k ≤ b.length) ∧ i = .int .i64 k ∧ m = .int .u64 c ∧ c ≤ 1 ∧ wr.ownsRow w.heap.size 106 1 out k (xs.map U32) ∧ Sml xs ∧ vl xs + B32 ^ k * c = vl (a.take k) + vl (b.take k) ∧ Below w.heap.size w wr) (fun _ _ i _ => a.length + b.length - (intOf i).toNat)
  case atStart => exact ⟨0, 0, [], Or.inl (Nat.zero_le _), rfl, rfl, by omega, hown0, Sml.nil, by simp [vl], (Below.refl _ _).alloc (Nat.le_refl _) _⟩
  case round =>
    obtain ⟨k, c, xs, hk, rfl, rfl, hc1, hown, hsx, hv, hnx⟩ := hrel
    have HV := Lib.hid hv; clear hv
    have hxl : xs.length = k := by have := hown.1; simp at this; omega
    have HXL := Lib.hid hxl; clear hxl
    by_cases hlt : k < a.length ∨ k < b.length
    · have hx := sa.nth k
      have hy := sb.nth k
      rw [B32_def] at hx hy
      have HSTEP : Hid (∀ s c2 : Nat, s + B32 * c2 = c + nth a k + nth b k → vl (xs ++ [s]) + B32 ^ (k + 1) * c2 = vl (a.take (k + 1)) + vl (b.take (k + 1))) := Lib.hid fun s c2 h => radd_step HXL.out HV.out h
      obtain ⟨T, hT⟩ : ∃ T : Nat, T = c + nth a k + nth b k := ⟨_, rfl⟩
      obtain ⟨s, hs⟩ : ∃ s : Nat, (T : Int) % 4294967296 = (s : Int) := ⟨T % 4294967296, by omega⟩
      obtain ⟨c2, hc2⟩ : ∃ c2 : Nat, (T : Int) / 4294967296 = (c2 : Int) := ⟨T / 4294967296, by omega⟩
      have hs1 : s < 4294967296 := by omega
      have hc21 : c2 ≤ 1 := by omega
      have hfin : s + B32 * c2 = c + nth a k + nth b k := by rw [B32_def]; omega
      have HFIN := Lib.hid hfin
      have hk2 : k + 1 ≤ a.length ∨ k + 1 ≤ b.length := by omega
      have HK2 := Lib.hid hk2
      have hkb2 : k ≤ 2097152 := by omega
      have hwx : IntKind.u64.wrap ((nth a k : Nat) : Int) = ((nth a k : Nat) : Int) := by rw [IntKind.wrap_u64]; omega
      have hwy : IntKind.u64.wrap ((nth b k : Nat) : Int) = ((nth b k : Nat) : Int) := by rw [IntKind.wrap_u64]; omega
      have hTI : (T : Int) ≤ 8589934591 := by omega
      clear hk hk2 hfin
      by_cases hka : k < a.length
      · obtain ⟨ba, oa, rfl, hca⟩ := hap (by rintro rfl; simp at hka)
        have cell1 : wr.cell? ⟨ba, oa + k, none⟩ = some (.int .u32 ((nth a k : Nat) : Int)) := (hnx.cell (World.block_lt_of_cell? w _ (hca k hka))).trans (hca k hka)
        by_cases hkb : k < b.length
        · obtain ⟨bb, ob, rfl, hcb⟩ := hbp (by rintro rfl; simp at hkb)
          have cell2 : wr.cell? ⟨bb, ob + k, none⟩ = some (.int .u32 ((nth b k : Nat) : Int)) := (hnx.cell (World.block_lt_of_cell? w _ (hcb k hkb))).trans (hcb k hkb)
          have hT2 : (c : Int) + ((nth a k : Nat) : Int) + ((nth b k : Nat) : Int) = T := by omega
          clear hT hlt
          go_wp2_with (at_builtin; refine wpList_append_own _ rfl _ _ 77 rfl w.heap.size 106 i0 (.int .u32 0) 1 4 Tryz.underlying77 hi hz0 hz1 hz2 rfl (by decide) _ _ _ rfl (hown.alloc _) ⟨wr.heap.size, 0, none⟩ 1 1 [U32 s] rfl rfl ?c1 (u32_one s) ?c3 ?c4 ?c5 ?_)
          case c1 => exact cell_one_new _ _ _
          case c3 => simp only [maxLen]; omega
          case c4 => omega
          case c5 => have := hnx.size; simp; omega
          intro v' w1 hown1 hgrow _
          go_wp2_with fail
          go_roundw
          case rel => exact ⟨k + 1, c2, xs ++ [s], HK2.out, by go_num, by rw [← hc2], by omega, by simpa using hown1, hsx.snoc (by rw [B32_def]; omega), HSTEP.out _ _ HFIN.out, (hnx.alloc hnx.size _).grown hgrow (by simp; have := hnx.size; omega) (fun j hj => (hown.lt j hj).1)⟩
          case measure => simp [intOf]; omega
        · have hz : nth b k = 0 := nth_beyond (by omega)
          have hT2 : (c : Int) + ((nth a k : Nat) : Int) = T := by omega
          clear hT hz hlt
          go_wp2_with (at_builtin; refine wpList_append_own _ rfl _ _ 77 rfl w.heap.size 106 i0 (.int .u32 0) 1 4 Tryz.underlying77 hi hz0 hz1 hz2 rfl (by decide) _ _ _ rfl (hown.alloc _) ⟨wr.heap.size, 0, none⟩ 1 1 [U32 s] rfl rfl ?c1 (u32_one s) ?c3 ?c4 ?c5 ?_)
          case c1 => exact cell_one_new _ _ _
          case c3 => simp only [maxLen]; omega
          case c4 => omega
          case c5 => have := hnx.size; simp; omega
          intro v' w1 hown1 hgrow _
          go_wp2_with fail
          go_roundw
          case rel => exact ⟨k + 1, c2, xs ++ [s], HK2.out, by go_num, by rw [← hc2], by omega, by simpa using hown1, hsx.snoc (by rw [B32_def]; omega), HSTEP.out _ _ HFIN.out, (hnx.alloc hnx.size _).grown hgrow (by simp; have := hnx.size; omega) (fun j hj => (hown.lt j hj).1)⟩
          case measure => simp [intOf]; omega
      · have hkb : k < b.length := by omega
        have hz : nth a k = 0 := nth_beyond (by omega)
        obtain ⟨bb, ob, rfl, hcb⟩ := hbp (by rintro rfl; simp at hkb)
        have cell2 : wr.cell? ⟨bb, ob + k, none⟩ = some (.int .u32 ((nth b k : Nat) : Int)) := (hnx.cell (World.block_lt_of_cell? w _ (hcb k hkb))).trans (hcb k hkb)
        have hT2 : (c : Int) + ((nth b k : Nat) : Int) = T := by omega
        clear hT hz hlt
        go_wp2_with (at_builtin; refine wpList_append_own _ rfl _ _ 77 rfl w.heap.size 106 i0 (.int .u32 0) 1 4 Tryz.underlying77 hi hz0 hz1 hz2 rfl (by decide) _ _ _ rfl (hown.alloc _) ⟨wr.heap.size, 0, none⟩ 1 1 [U32 s] rfl rfl ?c1 (u32_one s) ?c3 ?c4 ?c5 ?_)
        case c1 => exact cell_one_new _ _ _
        case c3 => simp only [maxLen]; omega
        case c4 => omega
        case c5 => have := hnx.size; simp; omega
        intro v' w1 hown1 hgrow _
        go_wp2_with fail
        go_roundw
        case rel => exact ⟨k + 1, c2, xs ++ [s], HK2.out, by go_num, by rw [← hc2], by omega, by simpa using hown1, hsx.snoc (by rw [B32_def]; omega), HSTEP.out _ _ HFIN.out, (hnx.alloc hnx.size _).grown hgrow (by simp; have := hnx.size; omega) (fun j hj => (hown.lt j hj).1)⟩
        case measure => simp [intOf]; omega
    · have hka : ¬ k < a.length := by omega
      have hkb : ¬ k < b.length := by omega
      have hv := HV.out
      have htk : b.take k = b := List.take_of_length_le (by omega)
      have htk2 : a.take k = a := List.take_of_length_le (by omega)
      rw [htk, htk2, EA.out, EB.out] at hv
      have hcw : (c : Int) % 4294967296 = (c : Int) := by omega
      have hkb2 : k ≤ 2097152 := by omega
      have HV2 := Lib.hid hv
      clear hv htk htk2 hk hlt
      go_wp2_with (at_builtin; refine wpList_append_own _ rfl _ _ 77 rfl w.heap.size 106 i0 (.int .u32 0) 1 4 Tryz.underlying77 hi hz0 hz1 hz2 rfl (by decide) _ _ _ rfl (hown.alloc _) ⟨wr.heap.size, 0, none⟩ 1 1 [U32 c] rfl rfl ?c1 (u32_one c) ?c3 ?c4 ?c5 ?_)
      case c1 => exact cell_one_new _ _ _
      case c3 => simp only [maxLen]; omega
      case c4 => omega
      case c5 => have := hnx.size; simp; omega
      intro v' w1 hown1 hgrow _
      have hcB : c < B32 := by rw [B32_def]; omega
      have htr := rtrim_any _ _ w1 (hsx.snoc hcB) (rd_of_owns32 (by simpa using hown1))
      rw [vl_snoc, HXL.out, HV2.out] at htr
      have HTR := Lib.hid htr
      clear htr
      go_wp2_with fail
      refine HTR.out.mono ?_
      rintro e w' ⟨v2, rfl, hrd2, -, -, rfl⟩
      go_wp2_with fail
      go_ret
      exact ⟨_, rfl, hrd2, (hnx.alloc hnx.size _).grown hgrow (by simp; have := hnx.size; omega) (fun j hj => (hown.lt j hj).1)⟩

end Go.Proofs.YteophaobcebppaaGreatDoor.dg
