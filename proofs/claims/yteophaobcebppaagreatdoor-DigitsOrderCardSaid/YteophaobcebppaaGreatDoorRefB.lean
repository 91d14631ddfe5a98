/- The walks of galleyref03.times, tens. Conditions: the lists are short enough to lie in memory. -/
import Derived.Test.YteophaobcebppaaGreatDoorRefA
set_option linter.unusedSimpArgs false
namespace Go.Proofs.YteophaobcebppaaGreatDoor.dg
open Go.RowKit
set_option linter.unusedVariables false

/-- a number of uint32, as a value. -/
def U32 (n : Nat) : Value := .int .u32 (n : Int)

theorem info_u32 : (Tryz.prog.info? 106).map (fun i => (i.zero, i.size, i.bytes)) = some (some (.int .u32 0), 1, 4) := by kernel_rfl

theorem rd_of_owns32 {w : World} {base : Nat} {v : Value} {n : Nat} {l : List Nat} (h : w.ownsRow base 106 1 v n (l.map U32)) : Rd32 w v l := by
  have hl : n = l.length := by have := h.1; simp at this; omega
  subst hl
  rcases h.2 with ⟨rfl, h0⟩ | ⟨g, cap, cur, rfl, hb, hg, hnc, hcm, hcs, ht⟩
  · have : l = [] := List.eq_nil_of_length_eq_zero h0
    subst this; exact Rd32.nil w
  · refine ⟨_, cap, rfl, hnc, hcm, fun _ => ⟨g, 0, rfl, fun i hi => ?_⟩⟩
    have h1 := h.cells (g := g) rfl i (U32 (nth l i)) (by rw [List.getElem?_map, List.getElem?_eq_getElem hi, nth_get hi]; rfl)
    have hadd : (⟨g, 0, none⟩ : Addr).add i = ⟨g, 0 + i, none⟩ := by unfold Addr.add; split <;> simp_all
    rw [hadd] at h1; exact h1
theorem u32_one (x : Nat) : ∀ u ∈ [U32 x], u.oneCell' = true := by intro u hu; simp at hu; subst hu; rfl

theorem own_some {w : World} {base : Nat} {e : TypeId} {v : Value} {n s : Nat} {xs : List Value} (h : w.ownsRow base e s v n xs) (hn : 0 < n) : ∃ ad n c, v = .slice (some ad) n c := by
  rcases h.2 with ⟨rfl, h0⟩ | ⟨g, cap, cur, rfl, hb, _⟩
  · omega
  · exact ⟨_, _, _, rfl⟩
theorem slice_keep {v v' : Value} (h : ∃ ad n c, v = .slice (some ad) n c) (h2 : SameAt v v') : ∃ ad n c, v' = .slice (some ad) n c := by
  obtain ⟨ad, n, c, e⟩ := h
  obtain ⟨n', c', e'⟩ := h2 _ _ _ e
  exact ⟨ad, n', c', e'⟩

theorem rtimes_step {a xs : List Nat} {k y more c s c2 : Nat} (hk : k < a.length) (hx : xs.length = k) (hv : vl xs + B32 ^ k * c = vl (a.take k) * y + more) (h : s + B32 * c2 = c + nth a k * y) :
    vl (xs ++ [s]) + B32 ^ (k + 1) * c2 = vl (a.take (k + 1)) * y + more := by
  rw [vl_snoc, hx, vl_take_succ hk, Nat.pow_succ, Nat.add_mul, Nat.mul_assoc, Nat.mul_assoc, Nat.add_assoc, ← Nat.mul_add, h, Nat.mul_add]
  omega

set_option maxHeartbeats 800000 in
set_option maxRecDepth 100000 in
theorem rtimes_any (va : Value) (A by_ more : Nat) (w : World) (ha : Rd32 w va (wds A)) (hb : by_ < B32) (hm : more < B32) (hlen : (wds A).length ≤ 2097152) :
    Calls Tryz.prog 67 #[va, .int .u32 by_, .int .u32 more] w fun e w' => ∃ v, e = .returned v ∧ Rd32 w' v (wds (A * by_ + more)) ∧ Fr w.heap.size v ∧ (∃ ad n c, v = .slice (some ad) n c) ∧ Below w.heap.size w w' := by
  have sa := sml_wds A
  have eA := vl_wds A
  generalize wds A = a at *
  obtain ⟨p, ca, rfl, hac, ham, hap⟩ := ha
  simp only [maxLen] at ham
  obtain ⟨i0, hi, hz0, hz1, hz2⟩ := info_parts info_u32
  go_enter Tryz.func67, Tryz.ntmps67
  have hbB := hb
  have hmB := hm
  rw [B32_def] at hb hm
  have hwm : IntKind.u64.wrap (more : Int) = (more : Int) := by rw [IntKind.wrap_u64]; omega
  have hwb : IntKind.u64.wrap (by_ : Int) = (by_ : Int) := by rw [IntKind.wrap_u64]; omega
  go_wp2_with fail
  have hown0 : (w.alloc (.cells #[] 106)).ownsRow w.heap.size 106 1 (.slice (some ⟨w.heap.size, 0, none⟩) 0 0) 0 (List.map U32 []) := World.ownsRow_made w #[] 0 (Nat.le_refl _) (Nat.zero_le _) rfl
  go_loopw [7, 8, 9] (fun out m i wr => ∃ (k mo : Nat) (xs : List Nat), k ≤ a.length ∧ i = .int .i64 k ∧ m = .int .u64 mo ∧ mo < B32 ∧ wr.ownsRow w.heap.size 106 1 out k (xs.map U32) ∧ Sml xs ∧ vl xs + B32 ^ k * mo = vl (a.take k) * by_ + more ∧ Below w.heap.size w wr) (fun _ _ i _ => a.length - (intOf i).toNat)
  case atStart => exact ⟨0, more, [], Nat.zero_le _, rfl, rfl, hmB, hown0, Sml.nil, by simp [vl], (Below.refl _ _).alloc (Nat.le_refl _) _⟩
  case round =>
    obtain ⟨k, mo, xs, hk, rfl, rfl, hmo, hown, hsx, hv, hnx⟩ := hrel
    have HV := Lib.hid hv; clear hv
    have hxl : xs.length = k := by have := hown.1; simp at this; omega
    have HXL := Lib.hid hxl; clear hxl
    have hmoB := hmo
    rw [B32_def] at hmo
    by_cases hlt : k < a.length
    · obtain ⟨b, off, rfl, hc⟩ := hap (by rintro rfl; simp at hlt)
      have hcell : wr.cell? ⟨b, off + k, none⟩ = some (.int .u32 ((nth a k : Nat) : Int)) := (hnx.cell (World.block_lt_of_cell? w _ (hc k hlt))).trans (hc k hlt)
      have hx := sa.nth k
      rw [B32_def] at hx
      have HSTEP : Hid (∀ s c2 : Nat, s + B32 * c2 = mo + nth a k * by_ → vl (xs ++ [s]) + B32 ^ (k + 1) * c2 = vl (a.take (k + 1)) * by_ + more) := Lib.hid fun s c2 h => rtimes_step hlt HXL.out HV.out h
      generalize nth a k = x at *
      have hwx : IntKind.u64.wrap (x : Int) = (x : Int) := by rw [IntKind.wrap_u64]; omega
      have hp1 : x * by_ ≤ 4294967295 * 4294967295 := Nat.mul_le_mul (by omega) (by omega)
      obtain ⟨T, hT⟩ : ∃ T : Nat, (mo : Int) + (x : Int) * (by_ : Int) = (T : Int) := ⟨mo + x * by_, by rw [Int.natCast_add, Int.natCast_mul]⟩
      have hTn : T = mo + x * by_ := by have h := hT; rw [← Int.natCast_mul, ← Int.natCast_add] at h; exact (Int.ofNat.inj h).symm
      have hp0 : 0 ≤ (x : Int) * (by_ : Int) := by rw [← Int.natCast_mul]; omega
      have hp2 : (x : Int) * (by_ : Int) ≤ 18446744065119617025 := by rw [← Int.natCast_mul]; omega
      have hTb : (T : Int) ≤ 18446744069414584320 := by omega
      have HTN := Lib.hid hTn
      clear hTn hp1
      go_wp2_with (at_builtin; refine wpList_append_own _ rfl _ _ 77 rfl w.heap.size 106 i0 (.int .u32 0) 1 4 Tryz.underlying77 hi hz0 hz1 hz2 rfl (by decide) _ _ _ rfl (hown.alloc _) ⟨wr.heap.size, 0, none⟩ 1 1 [U32 (T % 4294967296)] rfl rfl ?c1 (u32_one _) ?c3 ?c4 ?c5 ?_)
      case c1 => exact cell_one_new _ _ _
      case c3 => simp only [maxLen]; omega
      case c4 => omega
      case c5 => have := hnx.size; simp; omega
      intro v' w1 hown1 hgrow _
      have hgrow1 : wr.grownBy w1 _ := (World.grownBy_alloc wr _ _).trans hgrow
      go_wp2_with fail
      go_roundw
      case rel =>
        refine ⟨k + 1, T / 4294967296, xs ++ [T % 4294967296], by omega, by go_num, by go_num, ?_, by simpa using hown1, hsx.snoc (by rw [B32_def]; omega), ?_, (hnx.alloc hnx.size _).grown hgrow (by simp; have := hnx.size; omega) (fun j hj => (hown.lt j hj).1)⟩
        · rw [B32_def]; omega
        · refine HSTEP.out _ _ ?_
          rw [B32_def, ← HTN.out]; exact Nat.mod_add_div _ _
      case measure => simp [intOf]; omega
    · have hke : k = a.length := by omega
      have HKE := Lib.hid hke; clear hke
      have hmw : (mo : Int) % 4294967296 = (mo : Int) := by omega
      go_wp2_with (at_builtin; refine wpList_append_own _ rfl _ _ 77 rfl w.heap.size 106 i0 (.int .u32 0) 1 4 Tryz.underlying77 hi hz0 hz1 hz2 rfl (by decide) _ _ _ rfl (hown.alloc _) ⟨wr.heap.size, 0, none⟩ 1 1 [U32 mo] rfl rfl ?c1 (u32_one mo) ?c3 ?c4 ?c5 ?_)
      case c1 => exact cell_one_new _ _ _
      case c3 => simp only [maxLen]; omega
      case c4 => omega
      case c5 => have := hnx.size; simp; omega
      intro v' w1 hown1 hgrow _
      have hgrow1 : wr.grownBy w1 _ := (World.grownBy_alloc wr _ _).trans hgrow
      have hrd : Rd32 w1 v' (xs ++ [mo]) := rd_of_owns32 (by simpa using hown1)
      have hfr : Fr w.heap.size v' := fr_of_owns hown1
      have hsl : ∃ ad n c, v' = .slice (some ad) n c := own_some hown1 (by omega)
      go_wp2_with fail
      refine (rtrim_any _ _ _ (hsx.snoc hmoB) hrd).mono ?_
      rintro e w' ⟨v2, rfl, hrd2, hfr2, hsl2, rfl⟩
      go_wp2_with fail
      go_ret
      refine ⟨_, rfl, ?_, hfr2 _ hfr, slice_keep hsl hsl2, (hnx.alloc hnx.size _).grown hgrow (by simp; have := hnx.size; omega) (fun j hj => (hown.lt j hj).1)⟩
      have e1 : vl (xs ++ [mo]) = A * by_ + more := by
        rw [vl_snoc, HXL.out, HV.out, HKE.out, List.take_length, eA]
      rw [← e1]
      exact hrd2

end Go.Proofs.YteophaobcebppaaGreatDoor.dg
