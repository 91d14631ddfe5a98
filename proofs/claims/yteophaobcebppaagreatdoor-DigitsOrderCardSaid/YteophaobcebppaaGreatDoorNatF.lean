/- The walk of large.Left. Conditions: the lists are short enough to lie in memory. -/
import Derived.Test.YteophaobcebppaaGreatDoorNatE
set_option linter.unusedSimpArgs false
namespace Go.Proofs.YteophaobcebppaaGreatDoor.dg
open Go.RowKit
set_option linter.unusedVariables false

/-- 'make([]T, n, c)': n zero elements are owned, with room for c. -/
theorem wpList_make_len {P : Program} (w : World) {ops : Array Oper} {rest : List Oper} {o : Oper} {a : Act} {Q : Exit → Act → World → Prop}
    (hg : o.guard = none) (l c : Operand) (t : TypeId) (hop : o.op = Op.makeSlice t l c)
    (base : Nat) (e : TypeId) (i : TypeInfo) (z : Value) (h1 : P.underlying t = some (.slice e)) (h2 : P.info? e = some i) (h3 : i.zero = some z) (h4 : i.size = 1) (hz1 : z.cells = #[z])
    (kl kc : IntKind) (L C : Int) (n m : Nat) (hl : a.eval l = .int kl L) (hc : a.eval c = .int kc C) (hL : L = (n : Int)) (hC : C = (m : Int)) (hnm : n ≤ m) (b2 : i.bytes * m ≤ 281474976710656) (b3 : m ≤ maxLen) (b4 : base ≤ w.heap.size)
    (hK : ∀ w', w'.ownsRow base e 1 (.slice (some ⟨w.heap.size, 0, none⟩) n m) n (List.replicate n z) → w.grownBy w' none → wpList P ops Q rest (a.put o.dst (.slice (some ⟨w.heap.size, 0, none⟩) n m)) w') :
    wpList P ops Q (o :: rest) a w := by
  refine wpList_plain hg fun K hK' => ?_
  subst hL
  subst hC
  have h63' : (m : Int) ≤ 9223372036854775807 := by
    have h := b3
    simp [maxLen] at h
    omega
  have hb' : (i.bytes : Int) * (m : Int) ≤ 281474976710656 := by
    have h : ((i.bytes * m : Nat) : Int) ≤ 281474976710656 := by omega
    rwa [Int.natCast_mul] at h
  have hr := run_make (P := P) w t e i z h1 h2 h3 kl kc n m (by omega) (by omega) hb' h63'
  simp only [Int.toNat_natCast, h4, Nat.mul_one, hz1] at hr
  have hrow : (w.alloc (.cells (madeCells #[z] m) e)).ownsRow base e 1 (.slice (some ⟨w.heap.size, 0, none⟩) n m) n (List.replicate n z) := by
    refine ⟨by simp, .inr ⟨w.heap.size, m, madeCells #[z] m, rfl, b4, heap_alloc_new w _, hnm, b3, by simp [size_madeCells], ?_⟩⟩
    rw [Nat.mul_one]
    apply List.ext_getElem?
    intro j
    rw [List.getElem?_take, List.getElem?_replicate]
    by_cases hj : j < n
    · rw [if_pos hj, if_pos hj]
      simp [madeCells, show j < m from by omega, Nat.mod_one]
    · rw [if_neg hj, if_neg hj]
  unfold Oper.wp
  simp [execOp, hop, hl, hc, hr, Result.andThen]
  exact hK' _ _ (hK _ hrow (World.grownBy_alloc w _ none))

theorem bits_or_nat (a b : Nat) (ha : a < B64) (hb : b < B64) : bits .or .u64 (a : Int) (b : Int) = ((a ||| b : Nat) : Int) := by
  rw [B64_def] at ha hb
  have hx : a ||| b < 2 ^ 64 := Nat.or_lt_two_pow (by omega) (by omega)
  have h1 : (BitVec.ofInt 64 (a : Int)).toNat = a := by
    rw [BitVec.ofInt_natCast, BitVec.toNat_ofNat]; exact Nat.mod_eq_of_lt (by omega)
  have h2 : (BitVec.ofInt 64 (b : Int)).toNat = b := by
    rw [BitVec.ofInt_natCast, BitVec.toNat_ofNat]; exact Nat.mod_eq_of_lt (by omega)
  show IntKind.u64.wrap ((BitVec.ofInt 64 (a : Int) ||| BitVec.ofInt 64 (b : Int)).toNat : Int) = _
  rw [BitVec.toNat_or, h1, h2, IntKind.wrap_u64]
  omega

theorem bits_and_nat (a b : Nat) (ha : a < B64) (hb : b < B64) : bits .and .u64 (a : Int) (b : Int) = ((a &&& b : Nat) : Int) := by
  rw [B64_def] at ha hb
  have hx : a &&& b < 2 ^ 64 := Nat.and_lt_two_pow _ (by omega)
  have h1 : (BitVec.ofInt 64 (a : Int)).toNat = a := by
    rw [BitVec.ofInt_natCast, BitVec.toNat_ofNat]; exact Nat.mod_eq_of_lt (by omega)
  have h2 : (BitVec.ofInt 64 (b : Int)).toNat = b := by
    rw [BitVec.ofInt_natCast, BitVec.toNat_ofNat]; exact Nat.mod_eq_of_lt (by omega)
  show IntKind.u64.wrap ((BitVec.ofInt 64 (a : Int) &&& BitVec.ofInt 64 (b : Int)).toNat : Int) = _
  rw [BitVec.toNat_and, h1, h2, IntKind.wrap_u64]
  omega

theorem wrap_nat (n : Nat) : IntKind.u64.wrap (n : Int) = ((n % B64 : Nat) : Int) := by rw [IntKind.wrap_u64, B64_def]; omega

theorem cast_pow (r : Nat) : ((2 ^ r : Nat) : Int) = (2 : Int) ^ r := by rw [Int.natCast_pow]; rfl

theorem left_word (x r lo : Nat) (hx : x < B64) (hr : r < 64) (hlo : lo < 2 ^ r) :
    ∃ s : Nat, s < B64 ∧ bits .or .u64 (IntKind.u64.wrap ((x : Int) * 2 ^ r)) (lo : Int) = (s : Int) ∧ s + B64 * (x / 2 / 2 ^ (63 - r)) = x * 2 ^ r + lo ∧ x / 2 / 2 ^ (63 - r) < 2 ^ r := by
  have hB : B64 = 2 ^ (64 - r) * 2 ^ r := by rw [B64_pow, ← Nat.pow_add]; congr 1; omega
  have hlB : lo < B64 := by
    have : 2 ^ r ≤ 2 ^ 64 := Nat.pow_le_pow_right (by omega) (by omega)
    rw [B64_pow]; omega
  have e1 : (x : Int) * 2 ^ r = ((x * 2 ^ r : Nat) : Int) := by rw [Int.natCast_mul, cast_pow]
  have e2 : x * 2 ^ r % B64 = 2 ^ r * (x % 2 ^ (64 - r)) := by rw [hB, Nat.mul_mod_mul_right, Nat.mul_comm]
  have e3 : x / 2 / 2 ^ (63 - r) = x / 2 ^ (64 - r) := by
    rw [Nat.div_div_eq_div_mul]
    congr 1
    rw [show 64 - r = (63 - r) + 1 from by omega, Nat.pow_succ, Nat.mul_comm]
  have hm : x * 2 ^ r % B64 < B64 := Nat.mod_lt _ B64_pos
  have h5 := Nat.div_add_mod x (2 ^ (64 - r))
  rw [e1, wrap_nat, bits_or_nat _ _ hm hlB, e2, ← Nat.two_pow_add_eq_or_of_lt hlo]
  have h6 : 2 ^ r * (x % 2 ^ (64 - r)) + B64 * (x / 2 ^ (64 - r)) = x * 2 ^ r := by
    rw [hB, Nat.mul_comm (2 ^ (64 - r)), Nat.mul_assoc, ← Nat.mul_add, Nat.add_comm, h5, Nat.mul_comm]
  refine ⟨_, ?_, rfl, ?_, ?_⟩
  · rw [Nat.two_pow_add_eq_or_of_lt hlo, B64_pow]
    exact Nat.or_lt_two_pow (by rw [← e2, ← B64_pow]; exact hm) (by rw [← B64_pow]; exact hlB)
  · rw [e3]; omega
  · rw [e3, Nat.div_lt_iff_lt_mul (Nat.two_pow_pos _), Nat.mul_comm, ← hB]; exact hx

theorem left_step {a xs : List Nat} {q k lo s lo2 r : Nat} (hk : k < a.length) (hx : xs.length = q + k) (hv : val xs + B64 ^ (q + k) * lo = val (a.take k) * 2 ^ (64 * q + r)) (h : s + B64 * lo2 = nth a k * 2 ^ r + lo) :
    val (xs ++ [s]) + B64 ^ (q + (k + 1)) * lo2 = val (a.take (k + 1)) * 2 ^ (64 * q + r) := by
  rw [val_snoc, hx, val_take_succ hk, Nat.add_mul, show q + (k + 1) = (q + k) + 1 from rfl, Nat.pow_succ]
  have hB : B64 ^ k * nth a k * 2 ^ (64 * q + r) = B64 ^ (q + k) * (nth a k * 2 ^ r) := by
    have e : (2 : Nat) ^ (64 * q) = B64 ^ q := by rw [B64_pow, ← Nat.pow_mul]
    rw [Nat.pow_add, e, Nat.pow_add, Nat.mul_comm (B64 ^ q) (B64 ^ k), Nat.mul_assoc, Nat.mul_assoc, Nat.mul_left_comm (nth a k)]
  have e : B64 ^ (q + k) * s + B64 ^ (q + k) * B64 * lo2 = B64 ^ (q + k) * (nth a k * 2 ^ r) + B64 ^ (q + k) * lo := by
    rw [Nat.mul_assoc, ← Nat.mul_add, h, Nat.mul_add]
  rw [hB]
  generalize B64 ^ (q + k) * s = t1 at *
  generalize B64 ^ (q + k) * B64 * lo2 = t2 at *
  generalize B64 ^ (q + k) * (nth a k * 2 ^ r) = t3 at *
  generalize B64 ^ (q + k) * lo = t4 at *
  omega

theorem small_zeros (q : Nat) : Small (List.replicate q 0) := fun x hx => by rw [List.eq_of_mem_replicate hx]; exact B64_pos
theorem val_zeros (q : Nat) : val (List.replicate q 0) = 0 := by
  induction q with
  | zero => rfl
  | succ q ih => rw [List.replicate_succ]; simp [val, ih]

set_option maxHeartbeats 1600000 in
set_option maxRecDepth 100000 in
theorem left_any (va : Value) (A : Nat) (n : Int) (w : World) (ha : Rd64 w va (words A)) (hl : (words A).length ≤ 1048576) (hn0 : 0 ≤ n) (hn1 : n ≤ 67108864) :
    Calls Tryz.prog 71 #[va, .int .i64 n] w fun e w' => ∃ v, e = .returned v ∧ Rd64 w' v (words (A * 2 ^ n.toNat)) ∧ Fr w.heap.size v ∧ Below w.heap.size w w' := by
  obtain ⟨m, rfl⟩ := Int.eq_ofNat_of_zero_le hn0
  rw [Int.toNat_natCast]
  by_cases h0 : A = 0
  · subst h0
    rw [words_zero] at ha
    obtain ⟨p, ca, rfl, hac, ham, hap⟩ := ha
    go_enter Tryz.func71, Tryz.ntmps71
    go_wp2_with fail
    go_ret
    exact ⟨_, rfl, by rw [Nat.zero_mul, words_zero]; exact Rd64.nil _, Fr.none _ _ _, Below.refl _ _⟩
  · obtain ⟨i0, hi, hz0, hz1, hz2⟩ := info_parts info_u64
    have hne : (words A).length ≠ 0 := fun e => h0 (words_nil_iff.1 e)
    have sA := small_words A
    have EA := Lib.hid (val_words A)
    generalize words A = a at *
    obtain ⟨p, ca, rfl, hac, ham, hap⟩ := ha
    simp only [maxLen] at ham
    obtain ⟨b, off, rfl, hc⟩ := hap (by rintro rfl; simp at hne)
    have hq : (((a.length : Nat) : Int) == 0) = false := by simp; rintro rfl; simp at hne
    obtain ⟨q, r, hm, hr⟩ : ∃ q r, m = 64 * q + r ∧ r < 64 := ⟨m / 64, m % 64, by omega, by omega⟩
    have hq1 : ((m : Nat) : Int) / 64 = (q : Nat) := by omega
    have hr1 : ((m : Nat) : Int) % 64 = (r : Nat) := by omega
    have hqb : q ≤ 1048576 := by omega
    have HM := Lib.hid hm
    clear hm
    go_enter Tryz.func71, Tryz.ntmps71
    go_wp2_with (at_make; refine wpList_make_len _ rfl _ _ 63 rfl w.heap.size 27 i0 (.int .u64 0) Tryz.underlying63 hi hz0 hz1 rfl _ _ _ _ q (q + a.length + 1) rfl rfl ?b0 ?b1 (by omega) ?b2 ?b3 (Nat.le_refl _) ?_)
    case b0 => rfl
    case b1 => omega
    case b2 => rw [hz2]; omega
    case b3 => simp only [maxLen]; omega
    intro w0 hown0 hgrow0
    go_wp2_with fail
    go_loopw [5, 6, 23] (fun out m i wr => ∃ (k lo : Nat) (xs : List Nat), k ≤ a.length ∧ i = .int .i64 k ∧ m = .int .u64 lo ∧ wr.ownsRow w.heap.size 27 1 out (q + k) (xs.map U64) ∧ Small xs ∧ lo < 2 ^ r ∧ val xs + B64 ^ (q + k) * lo = val (a.take k) * 2 ^ (64 * q + r) ∧ Below w.heap.size w wr) (fun _ _ i _ => a.length - (intOf i).toNat)
    case atStart => exact ⟨0, 0, List.replicate q 0, Nat.zero_le _, rfl, rfl, by simpa [U64] using hown0, small_zeros q, Nat.two_pow_pos _, by simp [val_zeros, val], (Below.refl _ _).grown hgrow0 (Nat.le_refl _) (fun k h => by cases h)⟩
    case round =>
      obtain ⟨k, lo, xs, hk, rfl, rfl, hown, hsx, hlo, hv, hnx⟩ := hrel
      have HV := Lib.hid hv; clear hv
      have hxl : xs.length = q + k := by have := hown.1; simp at this; omega
      have HXL := Lib.hid hxl; clear hxl
      by_cases hlt : k < a.length
      · have cell1 : wr.cell? ⟨b, off + k, none⟩ = some (.int .u64 ((nth a k : Nat) : Int)) := (hnx.cell (World.block_lt_of_cell? w _ (hc k hlt))).trans (hc k hlt)
        clear hc hap
        obtain ⟨s, hs, he, hsum, hlo2⟩ := left_word (nth a k) r lo (sA.nth k) hr hlo
        have HS := Lib.hid hsum; clear hsum
        have HLO2 := Lib.hid hlo2; clear hlo2
        go_wp2_with (at_builtin; refine wpList_append_own _ rfl _ _ 63 rfl w.heap.size 27 i0 (.int .u64 0) 1 8 Tryz.underlying63 hi hz0 hz1 hz2 rfl (by decide) _ _ _ rfl (hown.alloc _) ⟨wr.heap.size, 0, none⟩ 1 1 [U64 s] rfl rfl ?c1 (u64_one s) ?c3 ?c4 ?c5 ?_)
        case c1 => exact cell_one_new _ _ _
        case c3 => simp only [maxLen]; omega
        case c4 => omega
        case c5 => have := hnx.size; simp; omega
        intro v' w1 hown1 hgrow _
        go_wp2_with fail
        go_roundw
        case rel =>
          exact ⟨k + 1, nth a k / 2 / 2 ^ (63 - r), xs ++ [s], by omega, by go_num, by rw [Int.natCast_ediv, Int.natCast_ediv, cast_pow]; rfl, by rw [← Nat.add_assoc]; simpa using hown1, hsx.snoc hs, HLO2.out, left_step hlt HXL.out HV.out HS.out, (hnx.alloc hnx.size _).grown hgrow (by simp; have := hnx.size; omega) (fun j hj => (hown.lt j hj).1)⟩
        case measure => simp [intOf]; omega
      · have hke : k = a.length := by omega
        have HKE := Lib.hid hke; clear hke
        go_wp2_with (at_builtin; refine wpList_append_own _ rfl _ _ 63 rfl w.heap.size 27 i0 (.int .u64 0) 1 8 Tryz.underlying63 hi hz0 hz1 hz2 rfl (by decide) _ _ _ rfl (hown.alloc _) ⟨wr.heap.size, 0, none⟩ 1 1 [U64 lo] rfl rfl ?c1 (u64_one lo) ?c3 ?c4 ?c5 ?_)
        case c1 => exact cell_one_new _ _ _
        case c3 => simp only [maxLen]; omega
        case c4 => omega
        case c5 => have := hnx.size; simp; omega
        intro v' w1 hown1 hgrow _
        have hmB : lo < B64 := by
          have : 2 ^ r ≤ 2 ^ 64 := Nat.pow_le_pow_right (by omega) (by omega)
          rw [B64_pow]; omega
        have hrd : Rd64 w1 v' (xs ++ [lo]) := rd_of_owns (by simpa using hown1)
        go_wp2_with fail
        refine (trim_any _ _ _ (hsx.snoc hmB) hrd).mono ?_
        rintro e w' ⟨v2, rfl, hrd2, hfr2, rfl⟩
        go_wp2_with fail
        go_ret
        refine ⟨_, rfl, ?_, hfr2 _ (fr_of_owns hown1), (hnx.alloc hnx.size _).grown hgrow (by simp; have := hnx.size; omega) (fun j hj => (hown.lt j hj).1)⟩
        have e1 : val (xs ++ [lo]) = A * 2 ^ m := by
          rw [val_snoc, HXL.out, HV.out, HKE.out, List.take_length, EA.out, HM.out]
        rw [← e1]
        exact hrd2

end Go.Proofs.YteophaobcebppaaGreatDoor.dg
