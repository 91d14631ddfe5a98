/- The walk of large.Times. Conditions: the lists are short enough to lie in memory. -/
import Derived.Test.YteophaobcebppaaGreatDoorNatB
import Derived.Test.YteophaobcebppaaGreatDoorShelf
import Derived.Shelf.Spec.BitsCarry
set_option linter.unusedSimpArgs false
namespace Go.Proofs.YteophaobcebppaaGreatDoor.dg
open Go.RowKit
set_option linter.unusedVariables false

/-- a number of uint64, as a value. -/
def U64 (n : Nat) : Value := .int .u64 (n : Int)

theorem info_u64 : (Tryz.prog.info? 27).map (fun i => (i.zero, i.size, i.bytes)) = some (some (.int .u64 0), 1, 8) := by kernel_rfl

theorem mul64_any (x y : Nat) (hx : x < B64) (hy : y < B64) (w : World) :
    Calls Tryz.prog 100 #[.int .u64 x, .int .u64 y] w fun e w' => ∃ hi lo : Nat, e = .returned (.tuple #[.int .u64 hi, .int .u64 lo]) ∧ hi * B64 + lo = x * y ∧ lo < B64 ∧ w = w' := by
  refine (Tryz.bits_Mul64 x y (by rw [← B64_def]; exact hx) (by rw [← B64_def]; exact hy) w).mono ?_
  rintro e w' ⟨rfl, rfl⟩
  refine ⟨_, _, rfl, ?_, ?_, rfl⟩
  · rw [← B64_def]; exact Nat.div_add_mod' _ _
  · rw [← B64_def]; exact Nat.mod_lt _ B64_pos

theorem add64_call (x y c : Nat) (hc : c ≤ 1) : ∃ s k : Nat, s + B64 * k = x + y + c ∧ s < B64 ∧
    ∀ w, (callFunc 113 #[.int .u64 x, .int .u64 y, .int .u64 c]).run Tryz.prog w = .ok (.value (.tuple #[.int .u64 s, .int .u64 k])) w := by
  refine ⟨(x + y + c) % 18446744073709551616, (x + y + c) / 18446744073709551616, by rw [← B64_def]; exact Nat.mod_add_div _ _, by rw [← B64_def]; exact Nat.mod_lt _ B64_pos, fun w => ?_⟩
  rw [run_callFunc_extern Tryz.func113 (by kernel_rfl) (by kernel_rfl) (by kernel_rfl) (e := add64Entry) (by kernel_rfl), run_add64 x y c (by omega) (by omega) (by omega) (by omega)]
  simp only [Result.andThen]
  congr 5 <;> omega

theorem add64_call0 (x y : Nat) : ∃ s k : Nat, s + B64 * k = x + y ∧ s < B64 ∧
    ∀ w, (callFunc 113 #[.int .u64 x, .int .u64 y, .int .u64 0]).run Tryz.prog w = .ok (.value (.tuple #[.int .u64 s, .int .u64 k])) w := by
  obtain ⟨s, k, h1, h2, h3⟩ := add64_call x y 0 (by omega)
  exact ⟨s, k, by omega, h2, h3⟩

theorem sub64_call (x y b : Nat) (hb : b ≤ 1) (hx : x < B64) (hy : y < B64) : ∃ s k : Nat, s + y + b = x + B64 * k ∧ s < B64 ∧ k ≤ 1 ∧
    ∀ w, (callFunc 86 #[.int .u64 x, .int .u64 y, .int .u64 b]).run Tryz.prog w = .ok (.value (.tuple #[.int .u64 s, .int .u64 k])) w := by
  refine ⟨(x + 18446744073709551616 - y - b) % 18446744073709551616, (if x < y + b then 1 else 0 : Nat), ?_, by rw [← B64_def]; exact Nat.mod_lt _ B64_pos, by split <;> omega, fun w => ?_⟩
  · rw [← B64_def]
    by_cases h : x < y + b
    · rw [if_pos h, Nat.mod_eq_of_lt (by omega)]; omega
    · rw [if_neg h]
      have e : x + B64 - y - b = (x - y - b) + B64 := by omega
      rw [e, Nat.add_mod_right, Nat.mod_eq_of_lt (by omega)]; omega
  · rw [run_callFunc_extern Tryz.func86 (by kernel_rfl) (by kernel_rfl) (by kernel_rfl) (e := sub64Entry) (by kernel_rfl), run_sub64 x y b hb]
    rfl

/-- an owned row of words reads as its words. -/
theorem rd_of_owns {w : World} {base : Nat} {v : Value} {n : Nat} {l : List Nat} (h : w.ownsRow base 27 1 v n (l.map U64)) : Rd64 w v l := by
  have hl : n = l.length := by have := h.1; simp at this; omega
  subst hl
  rcases h.2 with ⟨rfl, h0⟩ | ⟨g, cap, cur, rfl, hb, hg, hnc, hcm, hcs, ht⟩
  · have : l = [] := List.eq_nil_of_length_eq_zero h0
    subst this; exact Rd64.nil w
  · refine ⟨_, cap, rfl, hnc, hcm, fun _ => ⟨g, 0, rfl, fun i hi => ?_⟩⟩
    have h1 := h.cells (g := g) rfl i (U64 (nth l i)) (by rw [List.getElem?_map, List.getElem?_eq_getElem hi, nth_get hi]; rfl)
    have hadd : (⟨g, 0, none⟩ : Addr).add i = ⟨g, 0 + i, none⟩ := by unfold Addr.add; split <;> simp_all
    rw [hadd] at h1; exact h1

theorem fr_of_owns {w : World} {base : Nat} {e : TypeId} {v : Value} {n s : Nat} {xs : List Value} (h : w.ownsRow base e s v n xs) : Fr base v := by
  rcases h.2 with ⟨rfl, h0⟩ | ⟨g, cap, cur, rfl, hb, _⟩
  · exact Fr.none _ _ _
  · exact Fr.some hb

theorem u64_one (x : Nat) : ∀ u ∈ [U64 x], u.oneCell' = true := by intro u hu; simp at hu; subst hu; rfl

theorem times_step {a xs : List Nat} {k y more mo hi lo s c : Nat} (hk : k < a.length) (hx : xs.length = k) (hv : val xs + B64 ^ k * mo = val (a.take k) * y + more) (h1 : hi * B64 + lo = nth a k * y) (h2 : s + B64 * c = lo + mo) :
    val (xs ++ [s]) + B64 ^ (k + 1) * (hi + c) = val (a.take (k + 1)) * y + more := by
  rw [val_snoc, hx, val_take_succ hk, Nat.pow_succ, Nat.add_mul]
  have e1 : B64 ^ k * nth a k * y = B64 ^ k * (hi * B64 + lo) := by rw [h1, Nat.mul_assoc]
  have e2 : B64 ^ k * B64 * (hi + c) + B64 ^ k * s = B64 ^ k * (hi * B64 + lo) + B64 ^ k * mo := by
    rw [Nat.mul_assoc, ← Nat.mul_add, ← Nat.mul_add]
    congr 1
    have e3 : B64 * (hi + c) = hi * B64 + B64 * c := by rw [Nat.mul_add, Nat.mul_comm]
    rw [e3]
    generalize hi * B64 = u at *
    generalize B64 * c = u2 at *
    omega
  rw [e1]
  generalize B64 ^ k * B64 * (hi + c) = t1 at *
  generalize B64 ^ k * s = t2 at *
  generalize B64 ^ k * (hi * B64 + lo) = t3 at *
  generalize B64 ^ k * mo = t4 at *
  generalize val (a.take k) * y = t5 at *
  omega

theorem times_fits {x y m hi lo s c : Nat} (hx : x < B64) (hy : y < B64) (hm : m < B64) (h1 : hi * B64 + lo = x * y) (h2 : s + B64 * c = lo + m) : hi + c < B64 := by
  have h3 : x * y ≤ (B64 - 1) * (B64 - 1) := Nat.mul_le_mul (by omega) (by omega)
  have h4 : (B64 - 1) * (B64 - 1) + (B64 - 1) = B64 * (B64 - 1) := by rw [B64_def]
  have h5 : B64 * (hi + c) ≤ B64 * (B64 - 1) := by rw [Nat.mul_add, Nat.mul_comm B64 hi]; omega
  have h6 := Nat.le_of_mul_le_mul_left h5 B64_pos
  have := B64_pos
  omega

set_option maxHeartbeats 800000 in
set_option maxRecDepth 100000 in
theorem times_any (va : Value) (A by_ more : Nat) (w : World) (ha : Rd64 w va (words A)) (hb : by_ < B64) (hm : more < B64) (hlen : (words A).length ≤ 1048576) :
    Calls Tryz.prog 77 #[va, .int .u64 by_, .int .u64 more] w fun e w' => ∃ v, e = .returned v ∧ Rd64 w' v (words (A * by_ + more)) ∧ Below w.heap.size w w' := by
  have sa := small_words A
  have eA := val_words A
  generalize words A = a at *
  obtain ⟨p, ca, rfl, hac, ham, hap⟩ := ha
  simp only [maxLen] at ham
  obtain ⟨i0, hi, hz0, hz1, hz2⟩ := info_parts info_u64
  go_enter Tryz.func77, Tryz.ntmps77
  go_wp2_with (at_make; refine wpList_make_own _ rfl _ _ 63 rfl w.heap.size 27 i0 (.int .u64 0) 1 Tryz.underlying63 hi hz0 hz1 _ _ _ (a.length + 1) rfl rfl (by omega) ?b2 ?b3 (Nat.le_refl _) ?_)
  case b2 => rw [hz2]; omega
  case b3 => simp only [maxLen]; omega
  intro w0 hown0 hgrow0
  go_wp2_with fail
  go_loopw [2, 7, 19] (fun m out i wr => ∃ (k mo : Nat) (xs : List Nat), k ≤ a.length ∧ i = .int .i64 k ∧ m = .int .u64 mo ∧ mo < B64 ∧ wr.ownsRow w.heap.size 27 1 out k (xs.map U64) ∧ Small xs ∧ val xs + B64 ^ k * mo = val (a.take k) * by_ + more ∧ Below w.heap.size w wr) (fun _ _ i _ => a.length - (intOf i).toNat)
  case atStart => exact ⟨0, more, [], Nat.zero_le _, rfl, rfl, hm, hown0, Small.nil, by simp [val], (Below.refl _ _).grown hgrow0 (Nat.le_refl _) (fun k h => by cases h)⟩
  case round =>
    obtain ⟨k, mo, xs, hk, rfl, rfl, hmo, hown, hsx, hv, hnx⟩ := hrel
    have HV := Lib.hid hv; clear hv
    have hxl : xs.length = k := by have := hown.1; simp at this; omega
    have HXL := Lib.hid hxl; clear hxl
    by_cases hlt : k < a.length
    · obtain ⟨b, off, rfl, hc⟩ := hap (by rintro rfl; simp at hlt)
      have hcell : wr.cell? ⟨b, off + k, none⟩ = some (.int .u64 ((nth a k : Nat) : Int)) := (hnx.cell (World.block_lt_of_cell? w _ (hc k hlt))).trans (hc k hlt)
      have hx := sa.nth k
      go_wp2_with fail
      refine (mul64_any _ _ hx hb _).mono ?_
      rintro e w' ⟨hi', lo, rfl, hprod, hlo, rfl⟩
      have HP := Lib.hid hprod; clear hprod
      obtain ⟨s, c, hsum, hs, hadd⟩ := add64_call0 lo mo
      have HS := Lib.hid hsum; clear hsum
      have hbc : (hi' : Int) + (c : Int) ≤ 18446744073709551615 := by
        have h1 := HP.out
        have h2 := HS.out
        have := times_fits hx hb hmo h1 h2
        rw [B64_def] at this; omega
      go_wp2_with (at_builtin; refine wpList_append_own _ rfl _ _ 63 rfl w.heap.size 27 i0 (.int .u64 0) 1 8 Tryz.underlying63 hi hz0 hz1 hz2 rfl (by decide) _ _ _ rfl (hown.alloc _) ⟨wr.heap.size, 0, none⟩ 1 1 [U64 s] rfl rfl ?c1 (u64_one s) ?c3 ?c4 ?c5 ?_)
      case c1 => exact cell_one_new _ _ _
      case c3 => simp only [maxLen]; omega
      case c4 => omega
      case c5 => have := hnx.size; simp; omega
      intro v' w1 hown1 hgrow _
      have hgrow1 : wr.grownBy w1 _ := (World.grownBy_alloc wr _ _).trans hgrow
      go_wp2_with fail
      go_roundw
      case rel =>
        refine ⟨k + 1, hi' + c, xs ++ [s], by omega, by go_num, by go_num, ?_, by simpa using hown1, hsx.snoc hs, ?_, (hnx.alloc hnx.size _).grown hgrow (by simp; have := hnx.size; omega) (fun j hj => (hown.lt j hj).1)⟩
        · have := times_fits hx hb hmo HP.out HS.out; exact this
        · exact times_step hlt HXL.out HV.out HP.out HS.out
      case measure => simp [intOf]; omega
    · have hke : k = a.length := by omega
      have HKE := Lib.hid hke; clear hke
      go_wp2_with (at_builtin; refine wpList_append_own _ rfl _ _ 63 rfl w.heap.size 27 i0 (.int .u64 0) 1 8 Tryz.underlying63 hi hz0 hz1 hz2 rfl (by decide) _ _ _ rfl (hown.alloc _) ⟨wr.heap.size, 0, none⟩ 1 1 [U64 mo] rfl rfl ?c1 (u64_one mo) ?c3 ?c4 ?c5 ?_)
      case c1 => exact cell_one_new _ _ _
      case c3 => simp only [maxLen]; omega
      case c4 => omega
      case c5 => have := hnx.size; simp; omega
      intro v' w1 hown1 hgrow _
      have hgrow1 : wr.grownBy w1 _ := (World.grownBy_alloc wr _ _).trans hgrow
      have hrd : Rd64 w1 v' (xs ++ [mo]) := rd_of_owns (by simpa using hown1)
      go_wp2_with fail
      refine (trim_any _ _ _ (hsx.snoc hmo) hrd).mono ?_
      rintro e w' ⟨v2, rfl, hrd2, hfr2, rfl⟩
      go_wp2_with fail
      go_ret
      refine ⟨_, rfl, ?_, (hnx.alloc hnx.size _).grown hgrow (by simp; have := hnx.size; omega) (fun j hj => (hown.lt j hj).1)⟩
      have e1 : val (xs ++ [mo]) = A * by_ + more := by
        rw [val_snoc, HXL.out, HV.out, HKE.out, List.take_length, eA]
      rw [← e1]
      exact hrd2

end Go.Proofs.YteophaobcebppaaGreatDoor.dg
