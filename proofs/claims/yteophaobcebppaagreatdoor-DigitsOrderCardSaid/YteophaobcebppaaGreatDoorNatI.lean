/- The walk of large.Quo. Conditions: the lists are short enough to lie in memory, the divisor is not 0. -/
import Derived.Test.YteophaobcebppaaGreatDoorNatH
set_option linter.unusedSimpArgs false
namespace Go.Proofs.YteophaobcebppaaGreatDoor.dg
open Go.RowKit
set_option linter.unusedVariables false

theorem bl_lt (n : Nat) : n < 2 ^ bl n := by
  unfold bl
  split
  · omega
  · exact Nat.lt_log2_self
theorem bl_ge {n : Nat} (h : n ≠ 0) : 2 ^ (bl n - 1) ≤ n := by
  unfold bl
  rw [if_neg h, Nat.add_sub_cancel]
  exact Nat.log2_self_le h
theorem bl_pos {n : Nat} (h : n ≠ 0) : 0 < bl n := by unfold bl; rw [if_neg h]; omega
theorem bl_mono {m n : Nat} (h : m ≤ n) : bl m ≤ bl n := by
  rcases Nat.eq_zero_or_pos m with rfl | h0
  · simp [bl]
  · have h1 := bl_ge (n := m) (by omega)
    have h2 := bl_lt n
    have : 2 ^ (bl m - 1) < 2 ^ bl n := by omega
    have := (Nat.pow_lt_pow_iff_right (by omega : 1 < 2)).1 this
    have := bl_pos (n := m) (by omega)
    omega
theorem bl_words_le (n : Nat) : bl n ≤ 64 * (words n).length := by
  have h1 := lt_pow_words n
  rw [B64_pow, ← Nat.pow_mul] at h1
  rcases Nat.eq_zero_or_pos n with rfl | h0
  · simp [bl]
  · have h2 := bl_ge (n := n) (by omega)
    have : 2 ^ (bl n - 1) < 2 ^ (64 * (words n).length) := by omega
    have := (Nat.pow_lt_pow_iff_right (by omega : 1 < 2)).1 this
    omega
theorem words_bl (n : Nat) : 64 * (words n).length ≤ bl n + 63 := by
  rcases Nat.eq_zero_or_pos n with rfl | h0
  · simp [words_zero]
  · have h1 := words_ge (n := n) (by omega)
    rw [B64_pow, ← Nat.pow_mul] at h1
    have h2 := bl_lt n
    have : 2 ^ (64 * ((words n).length - 1)) < 2 ^ bl n := by omega
    have := (Nat.pow_lt_pow_iff_right (by omega : 1 < 2)).1 this
    omega

theorem nth_val {l : List Nat} (hs : Small l) (j : Nat) : nth l j = val l / B64 ^ j % B64 := by
  have hB := Nat.pow_pos (n := j) B64_pos
  by_cases hj : j < l.length
  · have e2 := val_append (l.take j) (l.drop j)
    rw [List.take_append_drop, List.length_take, Nat.min_eq_left (by omega)] at e2
    have h2 := val_lt (hs.take j)
    rw [List.length_take, Nat.min_eq_left (by omega)] at h2
    rw [e2, Nat.add_mul_div_left _ _ hB, Nat.div_eq_of_lt h2, Nat.zero_add, val_drop hj, Nat.add_mul_mod_self_left, Nat.mod_eq_of_lt (hs.nth j)]
  · rw [nth_beyond (by omega)]
    have h2 := val_lt hs
    have : B64 ^ l.length ≤ B64 ^ j := Nat.pow_le_pow_right B64_pos (by omega)
    rw [Nat.div_eq_of_lt (by omega)]; rfl

theorem val_set {l : List Nat} {j x : Nat} (h : j < l.length) : val (l.set j (nth l j + x)) = val l + B64 ^ j * x := by
  induction l generalizing j with
  | nil => simp at h
  | cons y l ih =>
    cases j with
    | zero => simp [val, nth_cons_zero]; omega
    | succ j =>
      rw [nth_cons_succ, List.set_cons_succ]
      simp only [val]
      rw [ih (by simpa using h), Nat.pow_succ, Nat.mul_add]
      have : B64 * (B64 ^ j * x) = B64 ^ j * B64 * x := by rw [← Nat.mul_assoc, Nat.mul_comm B64]
      omega

/-- a bit that is not there yet. -/
theorem or_bit {l : List Nat} (hs : Small l) {i j r : Nat} (hi : i = 64 * j + r) (hr : r < 64) (hT : val l % 2 ^ (i + 1) = 0) :
    nth l j ||| 2 ^ r = nth l j + 2 ^ r ∧ nth l j + 2 ^ r < B64 := by
  have hB : B64 = 2 ^ (r + 1) * 2 ^ (63 - r) := by rw [B64_pow, ← Nat.pow_add]; congr 1; omega
  obtain ⟨c, hc⟩ := Nat.dvd_of_mod_eq_zero hT
  have e1 : nth l j % 2 ^ (r + 1) = 0 := by
    rw [nth_val hs, hc, show i + 1 = 64 * j + (r + 1) from by omega, Nat.pow_add, Nat.pow_mul, ← B64_pow, Nat.mul_assoc, Nat.mul_div_cancel_left _ (Nat.pow_pos B64_pos), hB, Nat.mul_mod_mul_left, Nat.mul_mod_right]
  obtain ⟨d, hd⟩ := Nat.dvd_of_mod_eq_zero e1
  have h1 : 2 ^ r < 2 ^ (r + 1) := Nat.pow_lt_pow_right (by omega) (by omega)
  rw [hd, ← Nat.two_pow_add_eq_or_of_lt h1]
  refine ⟨rfl, ?_⟩
  have h2 := hs.nth j
  rw [hd, hB] at h2
  have h3 := Nat.lt_of_mul_lt_mul_left h2
  have h4 : 2 ^ (r + 1) * (d + 1) ≤ 2 ^ (r + 1) * 2 ^ (63 - r) := Nat.mul_le_mul_left _ h3
  rw [← hB, Nat.mul_add] at h4
  omega

theorem set_map_U64 (l : List Nat) (j x : Nat) : (l.map U64).set j (U64 x) = (l.set j x).map U64 := by
  rw [List.map_set]

theorem owns_below {w w' : World} {base : Nat} {e : TypeId} {size : Nat} {v : Value} {n : Nat} {xs : List Value} (h : w.ownsRow base e size v n xs) (hb : Below w.heap.size w w') : w'.ownsRow base e size v n xs := by
  refine ⟨h.1, ?_⟩
  rcases h.2 with h2 | ⟨g, cap, cur, hv, hg, hh, r⟩
  · exact Or.inl h2
  · exact Or.inr ⟨g, cap, cur, hv, hg, by rw [hb.block g (Array.getElem?_eq_some_iff.1 hh).1]; exact hh, r⟩

/-- a slice whose words do not lie in a block is not touched by a store there. -/
theorem rd_setCell {w : World} {v : Value} {l : List Nat} {a : Addr} {u : Value} (h : Rd64 w v l) (hne : ∀ p n c, v = .slice (some p) n c → l ≠ [] → p.block ≠ a.block) : Rd64 (w.setCell a u) v l := by
  obtain ⟨p, cap, rfl, h1, h2, h3⟩ := h
  refine ⟨p, cap, rfl, h1, h2, fun hl => ?_⟩
  obtain ⟨b, off, rfl, hc⟩ := h3 hl
  have hb := hne _ _ _ rfl hl
  refine ⟨b, off, rfl, fun i hi => ?_⟩
  rw [World.cell?_of_block (w := w) (a := ⟨b, off + i, none⟩) (Below.heap_setCell _ _ _ _ hb)]
  exact hc i hi

/-- a slice's row is not block B, if it has words. -/
def Ne (B : Nat) (v : Value) (l : List Nat) : Prop := ∀ p n c, v = .slice (some p) n c → l ≠ [] → p.block ≠ B
theorem ne_old {w : World} {v : Value} {l : List Nat} (h : Rd64 w v l) : Ne w.heap.size v l := by
  obtain ⟨p, cap, rfl, h1, h2, h3⟩ := h
  intro q n c e hl
  obtain ⟨b, off, rfl, hc⟩ := h3 hl
  simp only [Value.slice.injEq, Option.some.injEq] at e
  rw [← e.1]
  have := World.block_lt_of_cell? w _ (hc 0 (by cases l with | nil => exact absurd rfl hl | cons => simp))
  show b ≠ w.heap.size
  simp at this; omega
theorem Fr.ne {B : Nat} {v : Value} {l : List Nat} (h : Fr (B + 1) v) : Ne B v l := fun p n c e _ => by have := h p n c e; omega

theorem quo_step_ge {B R t : Nat} (hR : R < B * 2 ^ (t + 1)) (hge : B * 2 ^ t ≤ R) : R - B * 2 ^ t < B * 2 ^ t := by
  rw [Nat.pow_succ, ← Nat.mul_assoc] at hR; omega
theorem quo_half {B t : Nat} : 0 < t → B * 2 ^ t / 2 = B * 2 ^ (t - 1) := fun h => by
  obtain ⟨s, rfl⟩ : ∃ s, t = s + 1 := ⟨t - 1, by omega⟩
  rw [Nat.add_sub_cancel, Nat.pow_succ, ← Nat.mul_assoc, Nat.mul_div_cancel _ (by omega)]

theorem set_pow {l : List Nat} {t : Nat} (h : t / 64 < l.length) : val (l.set (t / 64) (nth l (t / 64) + 2 ^ (t % 64))) = val l + 2 ^ t := by
  rw [val_set h]
  congr 1
  rw [B64_pow, ← Nat.pow_mul, ← Nat.pow_add]
  congr 1
  omega
theorem small_set {l : List Nat} {j x : Nat} (h : Small l) (hx : x < B64) : Small (l.set j x) := fun y hy => by
  rcases List.mem_or_eq_of_mem_set hy with h1 | h1
  · exact h y h1
  · rw [h1]; exact hx
theorem quo_mod {x t : Nat} (h : x % 2 ^ (t + 1) = 0) : (x + 2 ^ t) % 2 ^ t = 0 := by
  obtain ⟨c, hc⟩ := Nat.dvd_of_mod_eq_zero h
  rw [hc, Nat.pow_succ, Nat.mul_assoc, Nat.add_mod_right, Nat.mul_mod_right]
theorem quo_mod2 {x t : Nat} (h : x % 2 ^ (t + 1) = 0) : x % 2 ^ t = 0 := by
  obtain ⟨c, hc⟩ := Nat.dvd_of_mod_eq_zero h
  rw [hc, Nat.pow_succ, Nat.mul_assoc, Nat.mul_mod_right]

theorem quo_end {A B T R : Nat} (hA : A = T * B + R) (hR : R < B * 2 ^ 0) : A / B = T ∧ A % B = R := by
  rw [Nat.pow_zero, Nat.mul_one] at hR
  rw [hA, Nat.mul_comm T B, Nat.add_comm]
  exact ⟨by rw [Nat.add_mul_div_left _ _ (by omega), Nat.div_eq_of_lt hR, Nat.zero_add], by rw [Nat.add_mul_mod_self_left, Nat.mod_eq_of_lt hR]⟩

theorem quo_len {B n D : Nat} (hn : n ≤ 32000000) (hD : D ≤ B * 2 ^ n) (hl : (words B).length ≤ 500000) : (words D).length ≤ 1048576 := by
  have h1 := lt_pow_words B
  have h2 : D < B64 ^ ((words B).length + (n / 64 + 1)) := by
    rw [Nat.pow_add]
    have h3 : 2 ^ n ≤ B64 ^ (n / 64 + 1) := by rw [B64_pow, ← Nat.pow_mul]; exact Nat.pow_le_pow_right (by omega) (by omega)
    have h4 : B * 2 ^ n ≤ B * B64 ^ (n / 64 + 1) := Nat.mul_le_mul_left _ h3
    have h5 : B * B64 ^ (n / 64 + 1) < B64 ^ (words B).length * B64 ^ (n / 64 + 1) := Nat.mul_lt_mul_of_pos_right h1 (Nat.pow_pos B64_pos)
    omega
  have := words_len_of_lt h2
  omega

theorem quo_start {A B n : Nat} (hB : B ≠ 0) (hn : bl A = bl B + n) : A < B * 2 ^ (n + 1) := by
  have h1 := bl_lt A
  have h2 := bl_ge hB
  have h3 := bl_pos hB
  have h4 : 2 ^ (bl B - 1) * 2 ^ (n + 1) ≤ B * 2 ^ (n + 1) := Nat.mul_le_mul_right _ h2
  rw [← Nat.pow_add, show bl B - 1 + (n + 1) = bl A from by omega] at h4
  omega

set_option maxHeartbeats 3200000 in
set_option maxRecDepth 100000 in
theorem quo_any (va vb : Value) (A B : Nat) (w : World) (ha : Rd64 w va (words A)) (hb : Rd64 w vb (words B)) (hB : B ≠ 0) (hlA : (words A).length ≤ 500000) (hlB : (words B).length ≤ 500000) :
    Calls Tryz.prog 40 #[va, vb] w fun e w' => ∃ v1 v2, e = .returned (.tuple #[v1, v2]) ∧ Rd64 w' v1 (words (A / B)) ∧ Rd64 w' v2 (words (A % B)) ∧ Below w.heap.size w w' := by
  obtain ⟨i0, hi, hz0, hz1, hz2⟩ := info_parts info_u64
  have hbA := bl_words_le A
  have hbB := bl_words_le B
  by_cases hlt : bl A < bl B
  · have hAB : A < B := by
      rcases Nat.lt_or_ge A B with h | h
      · exact h
      · have := bl_mono h; omega
    have hd := Lib.hid (Nat.div_eq_of_lt hAB)
    have hm := Lib.hid (Nat.mod_eq_of_lt hAB)
    go_enter Tryz.func40, Tryz.ntmps40
    go_wp2_with fail
    with_reducible refine (len_any _ A _ ha (by omega)).mono ?_
    rintro e w' ⟨rfl, rfl⟩
    go_wp2_with fail
    with_reducible refine (len_any _ B _ hb (by omega)).mono ?_
    rintro e w' ⟨rfl, rfl⟩
    go_wp2_with fail
    go_ret2
    exact ⟨_, _, rfl, by rw [hd.out, words_zero]; exact Rd64.nil _, by rw [hm.out]; exact ha, Below.refl _ _⟩
  · obtain ⟨n, hn⟩ : ∃ n, bl A = bl B + n := ⟨bl A - bl B, by omega⟩
    have hdiff : ((bl A : Nat) : Int) - (bl B : Nat) = (n : Nat) := by omega
    have hn2 : n ≤ 32000000 := by omega
    have hbA2 : bl A ≤ 32000000 := by omega
    have hbB2 : bl B ≤ 32000000 := by omega
    have HN := Lib.hid hn; clear hn hlt hbA hbB
    go_enter Tryz.func40, Tryz.ntmps40
    go_wp2_with fail
    with_reducible refine (len_any _ A _ ha (by omega)).mono ?_
    rintro e w' ⟨rfl, rfl⟩
    go_wp2_with fail
    with_reducible refine (len_any _ B _ hb (by omega)).mono ?_
    rintro e w' ⟨rfl, rfl⟩
    go_wp2_with (at_make; refine wpList_make_full _ rfl _ _ 63 rfl w.heap.size 27 i0 (.int .u64 0) 1 Tryz.underlying63 hi hz0 hz1 _ _ _ _ (n / 64 + 1) rfl rfl ?m0 ?m1 ?m2 ?m3 (Nat.le_refl _) ?_)
    case m0 => omega
    case m1 => omega
    case m2 => rw [hz2]; omega
    case m3 => simp only [maxLen]; omega
    intro w0 hown0 hgrow0
    have hb0 : Below w.heap.size w w0 := (Below.refl _ _).grown hgrow0 (Nat.le_refl _) (fun k h => by cases h)
    have hxs0 : w0.ownsRow w.heap.size 27 1 (.slice (some ⟨w.heap.size, 0, none⟩) (n / 64 + 1) (n / 64 + 1)) (n / 64 + 1) ((List.replicate (n / 64 + 1) 0).map U64) := by
      have e : (madeCells (Value.int .u64 0).cells (n / 64 + 1)).toList = (List.replicate (n / 64 + 1) 0).map U64 := by
        rw [List.map_replicate]; exact toList_madeCells_one _ _
      rw [← e]; exact hown0
    clear hown0
    go_wp2_with fail
    with_reducible refine (left_any _ B _ _ (hb.below hb0) (by omega) (by omega) (by omega)).mono ?_
    rw [Int.toNat_natCast]
    rintro e w1 ⟨vd, rfl, hrd, hfrd, hb1⟩
    have hsz0 : w.heap.size < w0.heap.size := (hxs0.lt w.heap.size rfl).2
    have hb2 : Below w.heap.size w w1 := hb0.trans (hb1.mono hb0.size)
    have hxs1 := owns_below hxs0 hb1
    go_wp2_with fail
    go_loopw [0, 8, 9] (fun va vd i wr => ∃ (k R D : Nat) (xs : List Nat), k ≤ n + 1 ∧ i = .int .i64 ((k : Int) - 1) ∧ Ne w.heap.size va (words R) ∧ Fr (w.heap.size + 1) vd ∧ Rd64 wr va (words R) ∧ Rd64 wr vd (words D) ∧ (0 < k → D = B * 2 ^ (k - 1)) ∧ D ≤ B * 2 ^ n ∧ A = val xs * B + R ∧ R < B * 2 ^ k ∧ val xs % 2 ^ k = 0 ∧ R ≤ A ∧ Small xs ∧ wr.ownsRow w.heap.size 27 1 (.slice (some ⟨w.heap.size, 0, none⟩) (n / 64 + 1) (n / 64 + 1)) (n / 64 + 1) (xs.map U64) ∧ Below w.heap.size w wr) (fun _ _ i _ => (intOf i + 1).toNat)
    case atStart =>
      refine ⟨n + 1, A, B * 2 ^ n, List.replicate (n / 64 + 1) 0, Nat.le_refl _, by go_num, ne_old ha, hfrd.mono hsz0, ha.below hb2, hrd, fun _ => by rw [Nat.add_sub_cancel], Nat.le_refl _, by rw [val_zeros]; simp, ?_, by rw [val_zeros]; simp, Nat.le_refl _, small_zeros _, hxs1, hb2⟩
      exact quo_start hB HN.out
    case round =>
      obtain ⟨k, R, D, xs, hk, rfl, hne, hfr, hra, hrd, hD, hDn, hA, hR, hT, hRA, hsx, hown, hnx⟩ := hrel
      have HD := Lib.hid hD
      have HA := Lib.hid hA
      have HT := Lib.hid hT
      clear hD hA hT
      by_cases hk0 : k = 0
      · subst hk0
        have hrdq : Rd64 wr _ xs := rd_of_owns hown
        go_wp2_with fail
        with_reducible refine (trim_any _ _ _ hsx hrdq).mono ?_
        rintro e w' ⟨v2, rfl, hrd2, hfr2, rfl⟩
        go_wp2_with fail
        go_ret2
        have h1 := quo_end HA.out hR
        refine ⟨_, _, rfl, ?_, ?_, hnx⟩
        · rw [h1.1]; exact hrd2
        · rw [h1.2]; exact hra
      · obtain ⟨t, rfl⟩ : ∃ t, k = t + 1 := ⟨k - 1, by omega⟩
        have hj' : (((t + 1 : Nat) : Int) - 1) = t := by omega
        rw [hj']
        clear hj'
        obtain rfl : D = B * 2 ^ t := HD.out (by omega)
        clear HD
        have hlR : (words R).length ≤ 500000 := by
          have := Nat.lt_of_le_of_lt hRA (lt_pow_words A)
          have := words_len_of_lt this; omega
        have hlD : (words (B * 2 ^ t)).length ≤ 1048576 := quo_len hn2 hDn hlB
        have ht2 : t ≤ 32000000 := by omega
        go_wp2_with fail
        with_reducible refine (cmp_any _ _ R (B * 2 ^ t) _ hra hrd).mono ?_
        rintro e w2 ⟨c, rfl, hst, nd, rfl⟩
        by_cases hge : B * 2 ^ t ≤ R
        · have hc : 0 ≤ c := by have := hst.1; omega
          clear hst
          go_wp2_with fail
          with_reducible refine (sub_any _ _ R (B * 2 ^ t) _ (hra.drewN nd) (hrd.drewN nd) (by omega) hge).mono ?_
          rintro e w3 ⟨v3, rfl, hr3, hfr3, hb3⟩
          have hnew : w.heap.size < wr.heap.size := (hown.lt w.heap.size rfl).2
          have hnx3 : Below w.heap.size w w3 := hnx.trans ((below_drewN (Below.refl _ _) nd).trans hb3 |>.mono hnx.size)
          have hrd3 := hrd.below ((below_drewN (Below.refl wr.heap.size wr) nd).trans hb3)
          have hown3 := owns_below hown ((below_drewN (Below.refl wr.heap.size wr) nd).trans hb3)
          clear hra hrd hown
          have hjl : t / 64 < n / 64 + 1 := by omega
          have hxl : xs.length = n / 64 + 1 := by have := hown3.1; simp at this; omega
          have HXL := Lib.hid hxl; clear hxl
          have cell1 : w3.cell? ⟨w.heap.size, t / 64, none⟩ = some (.int .u64 ((nth xs (t / 64) : Nat) : Int)) := by
            rw [hown3.cellAt (t / 64) (by omega), List.getElem?_map, List.getElem?_eq_getElem (by rw [HXL.out]; exact hjl), nth_get (by rw [HXL.out]; exact hjl)]; rfl
          have fr1 := hown3.frozenAt (t / 64)
          have r1 : (((t : Nat) : Int)).tdiv 64 = ((t / 64 : Nat) : Int) := by rw [Int.tdiv_eq_ediv_of_nonneg (by omega)]; omega
          have r2 : (((t : Nat) : Int)).tmod 64 = ((t % 64 : Nat) : Int) := by rw [Int.tmod_eq_emod_of_nonneg (by omega)]; omega
          have r3 : (0 : Int) ≤ ((t % 64 : Nat) : Int) := by omega
          have r4 : ((t % 64 : Nat) : Int) ≤ 64 := by omega
          have r5 : ((t / 64 : Nat) : Int) < ((n / 64 + 1 : Nat) : Int) := by omega
          have r6 : (0 : Int) ≤ ((t / 64 : Nat) : Int) := by omega
          have hor := or_bit hsx (i := t) (j := t / 64) (r := t % 64) (by omega) (by omega) HT.out
          have he : bits .or .u64 ((nth xs (t / 64) : Nat) : Int) (IntKind.u64.wrap (2 ^ (t % 64))) = ((nth xs (t / 64) + 2 ^ (t % 64) : Nat) : Int) := by
            have h1 : 2 ^ (t % 64) < B64 := by rw [B64_pow]; exact Nat.pow_lt_pow_right (by omega) (by omega)
            rw [← cast_pow, wrap_nat, Nat.mod_eq_of_lt h1, bits_or_nat _ _ (hsx.nth _) h1, hor.1]
          have HOR := Lib.hid hor; clear hor
          go_wp2_with fail
          go_region
          have hstore := hown3.stored (t / 64) (U64 (nth xs (t / 64) + 2 ^ (t % 64)))
          rw [set_map_U64] at hstore
          have hrd4 := rd_setCell (a := ⟨w.heap.size, t / 64, none⟩) (u := U64 (nth xs (t / 64) + 2 ^ (t % 64))) hrd3 (fun p n c e _ => by have := hfr p n c e; show p.block ≠ w.heap.size; omega)
          have hr4 := rd_setCell (a := ⟨w.heap.size, t / 64, none⟩) (u := U64 (nth xs (t / 64) + 2 ^ (t % 64))) hr3 (fun p n c e _ => by have := hfr3 p n c e; show p.block ≠ w.heap.size; simp at this; omega)
          have hu : (Value.int .u64 (((nth xs (t / 64) : Nat) : Int) + 2 ^ (t % 64))) = U64 (nth xs (t / 64) + 2 ^ (t % 64)) := by
            unfold U64; rw [Int.natCast_add, cast_pow]
          rw [← hu] at hrd4 hr4 hstore
          have hnx4 : Below w.heap.size w (w3.setCell ⟨w.heap.size, t / 64, none⟩ (Value.int .u64 (((nth xs (t / 64) : Nat) : Int) + 2 ^ (t % 64)))) := hnx3.setCell (Nat.le_refl _) _
          clear hu
          go_wp2_with fail
          with_reducible refine (right_any _ (B * 2 ^ t) 1 _ hrd4.drew hlD (by omega) (by omega)).mono ?_
          rw [show (1 : Int).toNat = 1 from rfl, Nat.pow_one]
          rintro e w5 ⟨v5, rfl, hr5, hfr5, hb5⟩
          have hR2 := quo_step_ge hR hge
          go_wp2_with fail
          go_roundw
          case rel =>
            refine ⟨t, R - B * 2 ^ t, B * 2 ^ t / 2, xs.set (t / 64) (nth xs (t / 64) + 2 ^ (t % 64)), by omega, by go_num, ?_, ?_, hr4.drew.below hb5, hr5, quo_half, by omega, ?_, hR2, ?_, by omega, ?_, ?_, ?_⟩
            · exact (hfr3.mono (by simp; omega)).ne
            · exact hfr5.mono (by have := hb3.size; simp at this ⊢; omega)
            · rw [set_pow (by rw [HXL.out]; exact hjl), Nat.add_mul, Nat.mul_comm (2 ^ t) B]; have := HA.out; omega
            · rw [set_pow (by rw [HXL.out]; exact hjl)]; exact quo_mod HT.out
            · exact small_set hsx HOR.out.2
            · exact owns_below (w := (w3.setCell _ _).drew) hstore.1 hb5
            · exact hnx4.drew.trans (hb5.mono hnx4.size)
          case measure => simp [intOf]
        · have hc : c < 0 := by have := hst.1; omega
          clear hst
          go_wp2_with fail
          with_reducible refine (right_any _ (B * 2 ^ t) 1 _ (hrd.drewN nd) hlD (by omega) (by omega)).mono ?_
          rw [show (1 : Int).toNat = 1 from rfl, Nat.pow_one]
          rintro e w5 ⟨v5, rfl, hr5, hfr5, hb5⟩
          have hb6 : Below wr.heap.size wr w5 := (below_drewN (Below.refl wr.heap.size wr) nd).trans hb5
          have hnew : w.heap.size < wr.heap.size := (hown.lt w.heap.size rfl).2
          go_wp2_with fail
          go_roundw
          case rel =>
            exact ⟨t, R, B * 2 ^ t / 2, xs, by omega, by go_num, hne, hfr5.mono (by simp; omega), hra.below hb6, hr5, quo_half, by omega, HA.out, by omega, quo_mod2 HT.out, hRA, hsx, owns_below hown hb6, hnx.trans (hb6.mono hnx.size)⟩
          case measure => simp [intOf]

end Go.Proofs.YteophaobcebppaaGreatDoor.dg
