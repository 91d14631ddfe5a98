/- The walks of galleyref03.tens, twos. Conditions: the lists are short enough to lie in memory. -/
import Derived.Test.YteophaobcebppaaGreatDoorRefB
set_option linter.unusedSimpArgs false
namespace Go.Proofs.YteophaobcebppaaGreatDoor.dg
open Go.RowKit
set_option linter.unusedVariables false

theorem wds_mul (a b : Nat) : (wds (a * b)).length ≤ (wds a).length + (wds b).length := by
  refine wds_len_of_lt ?_
  rw [Nat.pow_add]
  exact Nat.mul_lt_mul'' (lt_pow_wds a) (lt_pow_wds b)
theorem wds_ten (k : Nat) : (wds (10 ^ k)).length ≤ k + 1 :=
  wds_len_of_lt (Nat.lt_of_lt_of_le (Nat.pow_lt_pow_right (by omega) (Nat.lt_succ_self k)) (Nat.pow_le_pow_left (by rw [B32_def]; omega) _))

theorem rtimes_int (va : Value) (A : Nat) (y m : Int) (w : World) (ha : Rd32 w va (wds A)) (hy0 : 0 ≤ y) (hy : y < B32) (hm0 : 0 ≤ m) (hm : m < B32) (hlen : (wds A).length ≤ 2097152) :
    Calls Tryz.prog 67 #[va, .int .u32 y, .int .u32 m] w fun e w' => ∃ v, e = .returned v ∧ Rd32 w' v (wds (A * y.toNat + m.toNat)) ∧ Fr w.heap.size v ∧ (∃ ad n c, v = .slice (some ad) n c) ∧ Below w.heap.size w w' := by
  obtain ⟨y, rfl⟩ := Int.eq_ofNat_of_zero_le hy0
  obtain ⟨m, rfl⟩ := Int.eq_ofNat_of_zero_le hm0
  exact rtimes_any va A y m w ha (by omega) (by omega) hlen

theorem rtens_any (va : Value) (A : Nat) (n : Int) (w : World) (ha : Rd32 w va (wds A)) (hn : n ≤ 1000000) (hlen : (wds A).length ≤ 1000000) :
    Calls Tryz.prog 90 #[va, .int .i64 n] w fun e w' => ∃ v, e = .returned v ∧ Rd32 w' v (wds (A * 10 ^ n.toNat)) ∧ Below w.heap.size w w' := by
  have hL : ∀ j : Nat, j ≤ 1000000 → (wds (A * 10 ^ j)).length ≤ 2097152 := fun j hj => by
    have := wds_mul A (10 ^ j); have := wds_ten j; omega
  have HL := Lib.hid hL
  have HA := Lib.hid ha
  clear hL ha
  go_enter Tryz.func90, Tryz.ntmps90
  go_wp2_with fail
  go_loopw [0, 5] (fun v i wr => ∃ j : Nat, j ≤ n.toNat ∧ i = .int .i64 j ∧ Rd32 wr v (wds (A * 10 ^ j)) ∧ Below w.heap.size w wr) (fun _ i _ => n.toNat - (intOf i).toNat)
  case atStart => exact ⟨0, by omega, rfl, by rw [Nat.pow_zero, Nat.mul_one]; exact HA.out, Below.refl _ _⟩
  case round =>
    obtain ⟨j, hj, rfl, hv, hb⟩ := hrel
    by_cases hlt : (j : Int) < n
    · have ht := rtimes_int _ (A * 10 ^ j) 10 0 wr hv (by omega) (by rw [B32_def]; omega) (by omega) (by rw [B32_def]; omega) (HL.out j (by omega))
      have e1 : A * 10 ^ j * (10 : Int).toNat + (0 : Int).toNat = A * 10 ^ (j + 1) := by
        rw [show (10 : Int).toNat = 10 from rfl, show (0 : Int).toNat = 0 from rfl, Nat.add_zero, Nat.pow_succ, Nat.mul_assoc]
      rw [e1] at ht
      have HT := Lib.hid ht
      clear ht hv e1
      go_wp2_with fail
      refine HT.out.mono ?_
      rintro e w1 ⟨v1, rfl, hv1, -, -, hb1⟩
      go_wp2_with fail
      go_roundw
      case rel => exact ⟨j + 1, by omega, by go_num, hv1, Below.seq hb hb1⟩
      case measure => simp [intOf]; omega
    · have hje : j = n.toNat := by omega
      rw [hje] at hv
      have HV := Lib.hid hv
      clear hv hje
      go_wp2_with fail
      go_ret
      exact ⟨_, rfl, HV.out, hb⟩

theorem vl_zeros (q : Nat) : vl (List.replicate q 0) = 0 := by
  induction q with
  | zero => rfl
  | succ q ih => rw [List.replicate_succ]; simp [vl, ih]
theorem sml_zeros (q : Nat) : Sml (List.replicate q 0) := fun x hx => by rw [List.eq_of_mem_replicate hx]; exact B32_pos
theorem Sml.append {a b : List Nat} (h : Sml a) (h2 : Sml b) : Sml (a ++ b) := fun x hx => by
  rcases List.mem_append.1 hx with y | y
  · exact h x y
  · exact h2 x y

set_option maxHeartbeats 800000 in
set_option maxRecDepth 100000 in
theorem rtwos_any (va : Value) (A : Nat) (n : Int) (w : World) (ha : Rd32 w va (wds A)) (hn0 : 0 ≤ n) (hn : n ≤ 1000000) (hlen : (wds A).length ≤ 1000000) :
    Calls Tryz.prog 89 #[va, .int .i64 n] w fun e w' => ∃ v, e = .returned v ∧ Rd32 w' v (wds (A * 2 ^ n.toNat)) ∧ Below w.heap.size w w' := by
  obtain ⟨m, rfl⟩ := Int.eq_ofNat_of_zero_le hn0
  rw [Int.toNat_natCast]
  obtain ⟨q, r, hm, hr⟩ : ∃ q r, m = 32 * q + r ∧ r < 32 := ⟨m / 32, m % 32, by omega, by omega⟩
  have hq1 : ((m : Nat) : Int) / 32 = (q : Nat) := by omega
  have hr1 : ((m : Nat) : Int) % 32 = (r : Nat) := by omega
  have hqb : q ≤ 1000000 := by omega
  obtain ⟨i0, hi, hz0, hz1, hz2⟩ := info_parts info_u32
  have HM := Lib.hid hm
  have HA := Lib.hid ha
  clear hm ha
  go_enter Tryz.func89, Tryz.ntmps89
  go_wp2_with (at_make; refine wpList_make_len _ rfl _ _ 77 rfl w.heap.size 106 i0 (.int .u32 0) Tryz.underlying77 hi hz0 hz1 rfl _ _ _ _ q q rfl rfl ?b0 ?b1 (by omega) ?b2 ?b3 (Nat.le_refl _) ?_)
  case b0 => first | rfl | omega
  case b1 => first | rfl | omega
  case b2 => rw [hz2]; omega
  case b3 => simp only [maxLen]; omega
  intro w0 hown0 hgrow0
  have hp2 : 2 ^ r < B32 := by rw [B32_pow]; exact Nat.pow_lt_pow_right (by omega) hr
  have hpw : (2 : Int) ^ r % 4294967296 = ((2 ^ r : Nat) : Int) := by
    rw [← cast_pow]; rw [B32_def] at hp2; generalize 2 ^ r = y at *; omega
  have ht := rtimes_any va A (2 ^ r) 0 w0 (HA.out.below ((Below.refl _ _).grown hgrow0 (Nat.le_refl _) (fun k h => by cases h))) hp2 B32_pos (by omega)
  rw [Nat.add_zero] at ht
  have hb0 : Below w.heap.size w w0 := (Below.refl _ _).grown hgrow0 (Nat.le_refl _) (fun k h => by cases h)
  have hlT : (wds (A * 2 ^ r)).length ≤ 1000001 := by
    have h1 := wds_mul A (2 ^ r)
    have h2 : (wds (2 ^ r)).length ≤ 1 := wds_len_of_lt (by rw [Nat.pow_one]; exact hp2)
    omega
  have hT2 : A * 2 ^ m = B32 ^ q * (A * 2 ^ r) := by
    rw [HM.out, Nat.pow_add, Nat.pow_mul, ← B32_pow, Nat.mul_left_comm]
  have eT := vl_wds (A * 2 ^ r)
  have sT := sml_wds (A * 2 ^ r)
  have HT2 := Lib.hid hT2
  have HPW := Lib.hid hpw
  clear hT2
  generalize wds (A * 2 ^ r) = t at *
  generalize A * 2 ^ r = T at *
  generalize 2 ^ r = y at *
  have HT := Lib.hid ht
  clear ht hpw
  have hpw := HPW.out
  go_wp2_with fail
  refine HT.out.mono ?_
  rintro e w1 ⟨v1, rfl, hv1, hfr1, ⟨ad, n1, c1, rfl⟩, hb1⟩
  have hown1 := owns_below hown0 hb1
  obtain ⟨p1, cap1, he1, hc1, hm1, hp1⟩ := id hv1
  simp only [Value.slice.injEq] at he1
  obtain ⟨rfl, rfl, rfl⟩ := he1
  have hcells : ∀ (j : Nat) (u : Value), (t.map U32)[j]? = some u → w1.cell? (ad.add j) = some u := by
    intro j u hju
    have hj : j < t.length := by
      rcases Nat.lt_or_ge j t.length with a | a
      · exact a
      · rw [List.getElem?_eq_none (by rw [List.length_map]; exact a)] at hju; cases hju
    obtain ⟨b, off, hpe, hcc⟩ := hp1 (by rintro rfl; simp at hj)
    injection hpe with hpe
    subst hpe
    rw [List.getElem?_map, List.getElem?_eq_getElem hj] at hju
    simp only [Option.map_some, Option.some.injEq] at hju
    subst hju
    have := hcc j hj
    rw [nth_get hj] at this
    have hadd : (⟨b, off, none⟩ : Addr).add j = ⟨b, off + j, none⟩ := by unfold Addr.add; split <;> simp_all
    rw [hadd]; exact this
  have hone : ∀ u ∈ t.map U32, u.oneCell' = true := by
    intro u hu
    obtain ⟨x, -, rfl⟩ := List.mem_map.1 hu
    rfl
  go_wp2_with (at_builtin; refine wpList_append_own _ rfl _ _ 77 rfl w.heap.size 106 i0 (.int .u32 0) 1 4 Tryz.underlying77 hi hz0 hz1 hz2 rfl (by decide) _ _ _ rfl hown1 ad t.length c1 (t.map U32) rfl ?c0 hcells hone ?c3 ?c4 ?c5 ?_)
  case c0 => rw [List.length_map, Nat.mul_one]
  case c3 => simp only [maxLen]; omega
  case c4 => omega
  case c5 => have := hb0.size; have := hb1.size; omega
  intro v2 w2 hown2 hgrow _
  have hown3 : w2.ownsRow w.heap.size 106 1 v2 (q + t.length) ((List.replicate q 0 ++ t).map U32) := by
    rw [List.map_append, List.map_replicate]; exact hown2
  have hb2 : Below w.heap.size w w2 := (Below.seq hb0 hb1).grown hgrow (by have := hb0.size; have := hb1.size; omega) (fun j hj => (hown1.lt j hj).1)
  have hrd := rd_of_owns32 hown3
  have htrim := rtrim_any _ _ _ ((sml_zeros q).append sT) hrd
  rw [vl_append, vl_zeros, List.length_replicate, Nat.zero_add, eT, ← HT2.out] at htrim
  have HTR := Lib.hid htrim
  clear htrim hrd hown3 hown2 hcells hone hp1
  go_wp2_with fail
  refine HTR.out.mono ?_
  rintro e w3 ⟨v3, rfl, hv3, -, -, rfl⟩
  go_wp2_with fail
  go_ret
  exact ⟨_, rfl, hv3, hb2⟩

end Go.Proofs.YteophaobcebppaaGreatDoor.dg
