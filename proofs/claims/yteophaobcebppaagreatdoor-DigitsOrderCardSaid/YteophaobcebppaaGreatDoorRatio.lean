/- The walks of large.Nearest and Ratio. Conditions: the lists are short enough to lie in memory. -/
import Derived.Test.YteophaobcebppaaGreatDoorNatI
import Derived.Test.YteophaobcebppaaGreatDoorMathC
set_option linter.unusedSimpArgs false
namespace Go.Proofs.YteophaobcebppaaGreatDoor.dg
open Go.RowKit
set_option linter.unusedVariables false

/-- two stretches of a walk, one behind the other. -/
theorem Below.seq {a b c : World} (h1 : Below a.heap.size a b) (h2 : Below b.heap.size b c) : Below a.heap.size a c := h1.trans (h2.mono h1.size)

theorem fconv (m : Nat) : floatOfInt .f64 (m : Int) = rz m 1074 := by
  show Ieee.double.nearest (decide ((m : Int) < 0)) (m : Int).natAbs 0 = _
  rw [nearest_rz, decide_eq_false (by omega), word_pos, Int.natAbs_natCast]
  congr 1

theorem V_exact {m j : Nat} (hm : m ≤ 2 ^ 53) (hj : j + 2 ≤ TOP) : V (rz m (j : Int)) = m * 2 ^ j ∧ rz m (j : Int) < INF := by
  obtain ⟨r, hr⟩ := V_surj j m hm
  have hlt : r < INF := by
    refine V_lt_top (k := j + 2) ?_ hj
    rw [hr, Nat.pow_add, Nat.mul_left_comm]
    have h1 : m * 2 ^ j ≤ 2 ^ 53 * 2 ^ j := Nat.mul_le_mul_right _ hm
    have h2 := Nat.two_pow_pos j
    have h3 : 2 ^ j * (2 ^ 52 * 2 ^ 2) = 2 ^ 54 * 2 ^ j := by rw [← Nat.pow_add, Nat.mul_comm]
    rw [h3]; omega
  rw [rz_nat, ← hr, rd_V (by omega)]
  exact ⟨rfl, hlt⟩

/-- the nearest to N / D times 2^e. -/
def rdq (N D : Nat) (e : Int) : Nat := rd (N * 2 ^ (e + 1074).toNat) (D * 2 ^ (-(e + 1074)).toNat)

theorem rdq_exact {A D : Nat} {e : Int} (hD : 0 < D) : rdq (A * D) D e = rz A (e + 1074) := by
  unfold rdq rz
  refine rd_congr (Nat.mul_pos hD (Nat.two_pow_pos _)) (Nat.two_pow_pos _) ?_
  simp only [Nat.mul_assoc, Nat.mul_left_comm, Nat.mul_comm]

theorem rne_scale (n d c : Nat) (hd : 0 < d) (hc : 0 < c) : rne (n * c) (d * c) = rne n d := by
  unfold rne
  simp only [Nat.mul_div_mul_right _ _ hc, Nat.mul_mod_mul_right]
  have e1 : (d * c < 2 * (n % d * c)) = (d < 2 * (n % d)) := by
    rw [← Nat.mul_assoc]; exact propext ⟨fun h => Nat.lt_of_mul_lt_mul_right h, fun h => Nat.mul_lt_mul_of_pos_right h hc⟩
  have e2 : (2 * (n % d * c) = d * c) = (2 * (n % d) = d) := by
    rw [← Nat.mul_assoc]; exact propext ⟨fun h => Nat.eq_of_mul_eq_mul_right hc h, fun h => by rw [h]⟩
  simp only [e1, e2]

theorem rne_ge {n d q : Nat} (hd : 0 < d) (h : d * q ≤ n) : q ≤ rne n d := by
  have : q ≤ n / d := (Nat.le_div_iff_mul_le hd).2 (by rw [Nat.mul_comm]; exact h)
  unfold rne; simp only; split <;> omega

/-- by halves: what stands ahead of the last digit, that digit, and whether anything is behind it. -/
theorem rne_half (n M : Nat) (hM : 0 < M) : rne n (M * 2) = if n / M % 2 = 1 ∧ (n % M ≠ 0 ∨ n / M / 2 % 2 = 1) then n / M / 2 + 1 else n / M / 2 := by
  have h1 := Nat.div_add_mod n M
  have h2 := Nat.mod_lt n hM
  have e1 : n / (M * 2) = n / M / 2 := (Nat.div_div_eq_div_mul _ _ _).symm
  have e2 : n % (M * 2) = n % M + M * (n / M % 2) := Nat.mod_mul
  unfold rne
  simp only [e1, e2]
  rcases Nat.mod_two_eq_zero_or_one (n / M) with h | h
  · rw [h, Nat.mul_zero, Nat.add_zero]
    have n1 : ¬ (M * 2 < 2 * (n % M) ∨ 2 * (n % M) = M * 2 ∧ n / M / 2 % 2 = 1) := by omega
    rw [if_neg n1, if_neg (by omega)]
  · rw [h, Nat.mul_one]
    by_cases h3 : n % M ≠ 0 ∨ n / M / 2 % 2 = 1
    · rw [if_pos (by omega), if_pos ⟨rfl, h3⟩]
    · rw [if_neg (by omega), if_neg (fun h => h3 h.2)]

theorem nearest_round {N D A drop : Nat} {e : Int} (hD : 0 < D) (hA : A = N / D) (h1 : -1074 - e ≤ drop) (h2 : bl A ≤ 53 + drop) (h3 : -1074 - e < drop → bl A = 53 + drop) :
    rdq N D e = rz (rne N (D * 2 ^ drop)) (e + drop + 1074) ∧ rne N (D * 2 ^ drop) ≤ 2 ^ 53 := by
  obtain ⟨s, hs⟩ := Int.eq_ofNat_of_zero_le (show 0 ≤ e + drop + 1074 by omega)
  have hp := Nat.two_pow_pos drop
  have hDd : 0 < D * 2 ^ drop := Nat.mul_pos hD hp
  have hNlt : N < D * 2 ^ drop * 2 ^ 53 := by
    have h4 : A < 2 ^ bl A := bl_lt A
    have h5 : 2 ^ bl A ≤ 2 ^ (53 + drop) := Nat.pow_le_pow_right (by omega) h2
    have h6 : N < D * 2 ^ (53 + drop) := by
      rw [Nat.mul_comm]; exact (Nat.div_lt_iff_lt_mul hD).1 (by rw [← hA]; omega)
    rw [Nat.mul_assoc, ← Nat.pow_add, Nat.add_comm drop]; exact h6
  have hNge : 0 < s → D * 2 ^ drop * 2 ^ 52 ≤ N := by
    intro h
    have h4 := h3 (by omega)
    have hA0 : A ≠ 0 := by rintro h0; have h00 : bl 0 = 0 := rfl; rw [h0, h00] at h4; omega
    have h5 := bl_ge hA0
    rw [h4] at h5
    have h6 : D * 2 ^ (53 + drop - 1) ≤ D * A := Nat.mul_le_mul_left _ h5
    have h7 : D * A ≤ N := by rw [hA]; exact Nat.mul_div_le N D
    rw [Nat.mul_assoc, ← Nat.pow_add, show drop + 52 = 53 + drop - 1 from by omega]
    omega
  have hk := rne_le hDd hNlt
  have hk2 : 0 < s → 2 ^ 52 ≤ rne N (D * 2 ^ drop) := fun h => rne_ge hDd (hNge h)
  refine ⟨?_, hk⟩
  rw [hs, rz_nat, ← V_rung s _ hk hk2, rd_V']
  unfold rdq
  obtain ⟨p, hpp⟩ : ∃ p, p = (e + 1074).toNat := ⟨_, rfl⟩
  obtain ⟨q, hqq⟩ : ∃ q, q = (-(e + 1074)).toNat := ⟨_, rfl⟩
  rw [← hpp, ← hqq]
  have hY : 0 < D * 2 ^ q := Nat.mul_pos hD (Nat.two_pow_pos _)
  have hpq : q + s = drop + p := by omega
  have e1 : D * 2 ^ q * 2 ^ s = D * 2 ^ drop * 2 ^ p := by rw [Nat.mul_assoc, ← Nat.pow_add, hpq, Nat.pow_add, Nat.mul_assoc]
  have e2 : rne (N * 2 ^ p) (D * 2 ^ q * 2 ^ s) = rne N (D * 2 ^ drop) := by rw [e1, rne_scale _ _ _ hDd (Nat.two_pow_pos _)]
  rw [← e2]
  refine (near_rd hY (near_rne _ _ s hY ?_ ?_)).symm
  · intro h
    rw [e1, Nat.mul_right_comm]; exact Nat.mul_le_mul_right _ (hNge h)
  · rw [e1, Nat.mul_right_comm]; exact Nat.mul_lt_mul_of_pos_right hNlt (Nat.two_pow_pos _)

theorem and_one (h : Nat) (hh : h < B64) : bits .and .u64 (h : Int) 1 = ((h % 2 : Nat) : Int) := by
  have := bits_and_nat h 1 hh (by rw [B64_def]; decide)
  rw [Nat.and_one_is_mod] at this
  exact this

theorem ldexp_conv (m : Nat) (e : Int) (w : World) (hm : m ≤ 2 ^ 53) (he0 : -1000000000 ≤ e) (he1 : e ≤ 1000000000) :
    Calls Tryz.prog 70 #[.float .f64 (floatOfInt .f64 (m : Int)), .int .i64 e] w fun en w' => en = .returned (.float .f64 (rz m (e + 1074))) ∧ w = w' := by
  obtain ⟨j, hj⟩ : ∃ j : Nat, j = 1074 := ⟨_, rfl⟩
  obtain ⟨hv1, hv2⟩ := V_exact (m := m) (j := j) hm (by unfold TOP; omega)
  have hj2 : (1074 : Int) = (j : Int) := by omega
  rw [fconv, hj2]
  have h := ldexp_any (rz m (j : Int)) e w hv2 he0 he1
  rw [hv1, rz_shift] at h
  exact h

set_option maxHeartbeats 1600000 in
set_option maxRecDepth 100000 in
theorem near_exact (va : Value) (A : Nat) (e : Int) (more : Bool) (w : World) (ha : Rd64 w va (words A)) (hl : (words A).length ≤ 1000000) (he0 : -500000 ≤ e) (he1 : e ≤ 500000)
    (h1 : bl A ≤ 53) (h2 : -1074 ≤ e) :
    Calls Tryz.prog 98 #[va, .int .i64 e, .bool more] w fun en w' => en = .returned (.float .f64 (rz A (e + 1074))) ∧ w = w' := by
  have hx := len_any va A w ha (by omega)
  by_cases h0 : A = 0
  · subst h0
    have hb : bl 0 = 0 := rfl
    rw [words_zero] at ha
    rw [hb] at hx
    obtain ⟨p, ca, rfl, hac, ham, hap⟩ := ha
    have hmax : max (-53 : Int) (-1074 - e) ≤ 0 := by omega
    rw [rz_zero]
    go_enter Tryz.func98, Tryz.ntmps98
    go_wp2_with (go_at_call 78; refine hx.mono ?_; rintro en w' ⟨rfl, rfl⟩)
    go_ret
    exact ⟨rfl, rfl⟩
  · have hAlt : A < 2 ^ 53 := Nat.lt_of_lt_of_le (bl_lt A) (Nat.pow_le_pow_right (by omega) h1)
    have hAB : A < B64 := by rw [B64_pow]; omega
    rw [words_one (by omega) hAB] at ha
    obtain ⟨p, ca, rfl, hac, ham, hap⟩ := ha
    obtain ⟨b, off, rfl, hc⟩ := hap (by simp)
    have c0 : w.cell? ⟨b, off, none⟩ = some (.int .u64 (A : Int)) := by have := hc 0 (by simp); simpa [nth] using this
    clear hc hap
    have hmax : max (((bl A : Nat) : Int) - 53) (-1074 - e) ≤ 0 := by omega
    go_enter Tryz.func98, Tryz.ntmps98
    go_wp2_with (go_at_call 78; refine hx.mono ?_; rintro en w' ⟨rfl, rfl⟩)
    refine (ldexp_conv A e _ (by omega) (by omega) (by omega)).mono ?_
    rintro en w' ⟨rfl, rfl⟩
    go_wp2_with fail
    go_ret
    exact ⟨rfl, rfl⟩

set_option maxHeartbeats 1600000 in
set_option maxRecDepth 100000 in
theorem near_round (va : Value) (A N D drop : Nat) (e : Int) (more : Bool) (w : World) (ha : Rd64 w va (words A)) (hl : (words A).length ≤ 1000000) (he0 : -500000 ≤ e) (he1 : e ≤ 500000)
    (hD : 0 < D) (hA : A = N / D) (hmore : more = decide (N % D ≠ 0)) (hd0 : 0 < drop) (h1 : -1074 - e ≤ drop) (h2 : bl A ≤ 53 + drop) (h3 : -1074 - e < drop → bl A = 53 + drop) (hd1 : drop ≤ 60000000) :
    Calls Tryz.prog 98 #[va, .int .i64 e, .bool more] w fun en w' => en = .returned (.float .f64 (rdq N D e)) ∧ Below w.heap.size w w' := by
  have hx := len_any va A w ha (by omega)
  obtain ⟨t, rfl⟩ : ∃ t, drop = t + 1 := ⟨drop - 1, by omega⟩
  obtain ⟨hr1, hr2⟩ := nearest_round hD hA h1 h2 h3
  have hmax : max (((bl A : Nat) : Int) - 53) (-1074 - e) = ((t + 1 : Nat) : Int) := by omega
  have hsub : ((t + 1 : Nat) : Int) - 1 = (t : Int) := by omega
  have hrt := right_any va A t w ha (by omega) (by omega) (by omega)
  rw [Int.toNat_natCast] at hrt
  -- the digits that are kept, and one more
  obtain ⟨h, hh⟩ : ∃ h, h = A / 2 ^ t := ⟨_, rfl⟩
  have hhlt : h < 2 ^ 54 := by
    rw [hh, Nat.div_lt_iff_lt_mul (Nat.two_pow_pos _), ← Nat.pow_add]
    exact Nat.lt_of_lt_of_le (bl_lt A) (Nat.pow_le_pow_right (by omega) (by omega))
  have hhB : h < B64 := by rw [B64_pow]; omega
  obtain ⟨lo, hlo⟩ : ∃ lo : Bool, lo = decide (A % 2 ^ t ≠ 0) := ⟨_, rfl⟩
  rw [← hh, ← hlo] at hrt
  have hM : 0 < D * 2 ^ t := Nat.mul_pos hD (Nat.two_pow_pos _)
  have hrn := rne_half N (D * 2 ^ t) hM
  have e1 : N / (D * 2 ^ t) = h := by rw [hh, hA, Nat.div_div_eq_div_mul]
  have e2 : N % (D * 2 ^ t) ≠ 0 ↔ (more || lo) = true := by
    rw [hmore, hlo, Nat.mod_mul, ← hA]
    by_cases a1 : N % D = 0
    · by_cases a2 : A % 2 ^ t = 0
      · simp [a1, a2]
      · have : D * (A % 2 ^ t) ≠ 0 := Nat.mul_ne_zero (by omega) a2
        simp [a1, a2]; omega
    · have : N % D + D * (A % 2 ^ t) ≠ 0 := by omega
      simp [a1]
  rw [e1, Nat.mul_assoc, ← Nat.pow_succ] at hrn
  have hsum : e + (((t + 1 : Nat)) : Int) = e + ((t : Int) + 1) := by omega
  rw [hr1, hsum]
  generalize rne N (D * 2 ^ (t + 1)) = rr at *
  have HR := Lib.hid hrn
  have HR2 := Lib.hid hr2
  have HE2 := Lib.hid e2
  clear hrn hr1 hr2 e1 e2 hh hlo hmore hA h1 h2 h3 hM hsum
  go_enter Tryz.func98, Tryz.ntmps98
  go_wp2_with (first | (go_at_call 78; refine hx.mono ?_; rintro en w' ⟨rfl, rfl⟩) | fail)
  refine hrt.mono ?_
  rintro en w1 ⟨v8, rfl, hrd8, -, hb1⟩
  have hcell : h = 0 ∧ words h = [] ∨ 0 < h ∧ words h = [h] := by
    rcases Nat.eq_zero_or_pos h with h0 | h0
    · exact Or.inl ⟨h0, by rw [h0, words_zero]⟩
    · exact Or.inr ⟨h0, words_one h0 hhB⟩
  obtain ⟨mr, hmr⟩ : ∃ mr : Bool, mr = (more || lo) := ⟨_, rfl⟩
  rw [← hmr] at HE2
  go_upto_region 7 with (fail)
  go_cut [2] (fun mv wx => w1 = wx ∧ mv = .bool mr)
  case first =>
    have HMR := Lib.hid hmr; clear hmr
    cases more
    · go_wp2_with fail
      all_goals go_meet
      all_goals exact ⟨rfl, by rw [HMR.out]; simp⟩
    · go_wp2_with fail
      all_goals go_meet
      all_goals exact ⟨rfl, by rw [HMR.out]; simp⟩
  case rest =>
    obtain ⟨rfl, rfl⟩ := hcut
    clear hmr
    obtain ⟨p8, c8, rfl, -, -, hp8⟩ := hrd8
    go_upto_if 42 with (fail)
    go_cut [8, 10] (fun _ hv wx => w1 = wx ∧ hv = .int .u64 (h : Int))
    case first =>
      rcases hcell with ⟨h0, hw⟩ | ⟨h0, hw⟩
      · rw [hw, List.length_nil]
        have H0 := Lib.hid h0; clear h0 hw hp8
        go_wp2_with fail
        go_meet
        exact ⟨rfl, by rw [H0.out]; rfl⟩
      · rw [hw] at hp8
        rw [hw, List.length_singleton]
        obtain ⟨b8, o8, rfl, hc8⟩ := hp8 (by simp)
        have cc : w1.cell? ⟨b8, o8, none⟩ = some (.int .u64 (h : Int)) := by have := hc8 0 (by simp); simpa [nth] using this
        clear hp8 hc8 hw
        go_wp2_with fail
        go_meet
        exact ⟨rfl, rfl⟩
    case rest =>
      obtain ⟨rfl, rfl⟩ := hcut
      clear hcell hp8 hrt hx ha
      have hhI : ((h : Nat) : Int) < 18014398509481984 := by omega
      clear hhlt
      have hres := HR.out
      have hle := HR2.out
      by_cases ho : h % 2 = 1
      · have hb : bits .and .u64 (h : Int) 1 = 1 := by rw [and_one h hhB, ho]; rfl
        by_cases hq2 : h / 2 % 2 = 1
        · have hb2 : bits .and .u64 ((h : Int) / 2) 1 = 1 := by rw [show (h : Int) / 2 = ((h / 2 : Nat) : Int) from by omega, and_one (h / 2) (by omega), hq2]; rfl
          have hrr : rr = h / 2 + 1 := by rw [hres, if_pos ⟨ho, Or.inr hq2⟩]
          subst hrr
          have hld := fun ww => ldexp_conv (h / 2 + 1) (e + ((t : Int) + 1)) ww hle (by omega) (by omega)
          have hcast : ((h / 2 + 1 : Nat) : Int) = (h : Int) / 2 + 1 := by omega
          rw [hcast] at hld
          have HLD := Lib.hid hld
          clear hhB HR HR2 HE2 hres hle hq2 ho hld hcast hmax hsub
          cases mr <;> go_wp2_with fail
          all_goals refine (HLD.out _).mono ?_
          all_goals rintro en w' ⟨rfl, rfl⟩
          all_goals go_wp2_with fail
          all_goals go_ret
          all_goals exact ⟨rfl, hb1⟩
        · have hb2 : bits .and .u64 ((h : Int) / 2) 1 = 0 := by rw [show (h : Int) / 2 = ((h / 2 : Nat) : Int) from by omega, and_one (h / 2) (by omega), show h / 2 % 2 = 0 from by omega]; rfl
          cases mr
          · have hrr : rr = h / 2 := by
              rw [hres, if_neg]
              rintro ⟨-, a | a⟩
              · rw [HE2.out] at a; cases a
              · exact hq2 a
            subst hrr
            have hld := fun ww => ldexp_conv (h / 2) (e + ((t : Int) + 1)) ww hle (by omega) (by omega)
            have hcast : ((h / 2 : Nat) : Int) = (h : Int) / 2 := by omega
            rw [hcast] at hld
            have HLD := Lib.hid hld
            clear hhB HR HR2 HE2 hres hle hq2 ho hld hcast hmax hsub
            go_wp2_with fail
            refine (HLD.out _).mono ?_
            rintro en w' ⟨rfl, rfl⟩
            go_wp2_with fail
            go_ret
            exact ⟨rfl, hb1⟩
          · have hrr : rr = h / 2 + 1 := by rw [hres, if_pos ⟨ho, Or.inl (HE2.out.2 rfl)⟩]
            subst hrr
            have hld := fun ww => ldexp_conv (h / 2 + 1) (e + ((t : Int) + 1)) ww hle (by omega) (by omega)
            have hcast : ((h / 2 + 1 : Nat) : Int) = (h : Int) / 2 + 1 := by omega
            rw [hcast] at hld
            have HLD := Lib.hid hld
            clear hhB HR HR2 HE2 hres hle hq2 ho hld hcast hmax hsub
            go_wp2_with fail
            refine (HLD.out _).mono ?_
            rintro en w' ⟨rfl, rfl⟩
            go_wp2_with fail
            go_ret
            exact ⟨rfl, hb1⟩
      · have hb : bits .and .u64 (h : Int) 1 = 0 := by rw [and_one h hhB, show h % 2 = 0 from by omega]; rfl
        have hrr : rr = h / 2 := by
          rw [hres, if_neg]
          rintro ⟨a, -⟩; exact ho a
        subst hrr
        have hld := fun ww => ldexp_conv (h / 2) (e + ((t : Int) + 1)) ww hle (by omega) (by omega)
        have hcast : ((h / 2 : Nat) : Int) = (h : Int) / 2 := by omega
        rw [hcast] at hld
        have HLD := Lib.hid hld
        clear hhB HR HR2 HE2 hres hle ho hld hcast hmax hsub
        go_wp2_with fail
        refine (HLD.out _).mono ?_
        rintro en w' ⟨rfl, rfl⟩
        go_wp2_with fail
        go_ret
        exact ⟨rfl, hb1⟩

theorem bl_of {A k : Nat} (h1 : 2 ^ k ≤ A) (h2 : A < 2 ^ (k + 1)) : bl A = k + 1 := by
  have h0 : A ≠ 0 := by have := Nat.two_pow_pos k; omega
  have a1 := bl_lt A
  have a2 := bl_ge h0
  have a3 := bl_pos h0
  have b1 : k < bl A := (Nat.pow_lt_pow_iff_right (by omega : 1 < 2)).1 (Nat.lt_of_le_of_lt h1 a1)
  have b2 : bl A - 1 < k + 1 := (Nat.pow_lt_pow_iff_right (by omega : 1 < 2)).1 (Nat.lt_of_le_of_lt a2 h2)
  omega

theorem bl_mul_pow {A : Nat} (h : A ≠ 0) (n : Nat) : bl (A * 2 ^ n) = bl A + n := by
  have a1 := bl_lt A
  have a2 := bl_ge h
  have a3 := bl_pos h
  have e : bl A + n = (bl A - 1 + n) + 1 := by omega
  rw [e]
  refine bl_of ?_ ?_
  · rw [Nat.pow_add]; exact Nat.mul_le_mul_right _ a2
  · rw [← e, Nat.pow_add]; exact Nat.mul_lt_mul_of_pos_right a1 (Nat.two_pow_pos _)

theorem quo_bl {A B : Nat} (hA : A ≠ 0) (hB : B ≠ 0) (h : bl A = bl B + 56) : 56 ≤ bl (A / B) ∧ bl (A / B) ≤ 57 := by
  have a1 := bl_lt A; have a2 := bl_ge hA
  have b1 := bl_lt B; have b2 := bl_ge hB
  have a0 := bl_pos hA; have b0 := bl_pos hB
  rw [h] at a1 a2
  have lo : 2 ^ 55 ≤ A / B := by
    rw [Nat.le_div_iff_mul_le (by omega)]
    have : 2 ^ (bl B + 56 - 1) = 2 ^ 55 * 2 ^ bl B := by rw [← Nat.pow_add]; congr 1; omega
    have h3 : 2 ^ 55 * B ≤ 2 ^ 55 * 2 ^ bl B := Nat.mul_le_mul_left _ (by omega)
    omega
  have hi : A / B < 2 ^ 57 := by
    rw [Nat.div_lt_iff_lt_mul (by omega)]
    have : 2 ^ (bl B + 56) = 2 ^ 57 * 2 ^ (bl B - 1) := by rw [← Nat.pow_add]; congr 1; omega
    have h3 : 2 ^ 57 * 2 ^ (bl B - 1) ≤ 2 ^ 57 * B := Nat.mul_le_mul_left _ b2
    omega
  have q0 : A / B ≠ 0 := by omega
  refine ⟨?_, ?_⟩
  · rcases Nat.lt_or_ge (bl (A / B)) 56 with h4 | h4
    · have := bl_lt (A / B)
      have h5 : 2 ^ bl (A / B) ≤ 2 ^ 55 := Nat.pow_le_pow_right (by omega) (by omega)
      omega
    · exact h4
  · rcases Nat.lt_or_ge 57 (bl (A / B)) with h4 | h4
    · have := bl_ge q0
      have h5 : 2 ^ 57 ≤ 2 ^ (bl (A / B) - 1) := Nat.pow_le_pow_right (by omega) (by omega)
      omega
    · exact h4

theorem rdq_left {A B : Nat} {n : Nat} (hB : 0 < B) : rdq (A * 2 ^ n) B (-(n : Int)) = rd (A * 2 ^ 1074) B := by
  unfold rdq
  obtain ⟨j, hj⟩ : ∃ j : Nat, j = 1074 := ⟨_, rfl⟩
  have hj2 : (1074 : Int) = (j : Int) := by omega
  rw [hj2, ← hj]
  refine rd_congr (Nat.mul_pos hB (Nat.two_pow_pos _)) hB ?_
  obtain ⟨p, hp⟩ : ∃ p, p = (-(n : Int) + j).toNat := ⟨_, rfl⟩
  obtain ⟨q, hq⟩ : ∃ q, q = (-(-(n : Int) + j)).toNat := ⟨_, rfl⟩
  rw [← hp, ← hq]
  have : n + p = j + q := by omega
  calc A * 2 ^ n * 2 ^ p * B = A * (2 ^ n * 2 ^ p) * B := by rw [Nat.mul_assoc A]
    _ = A * (2 ^ j * 2 ^ q) * B := by rw [← Nat.pow_add, this, Nat.pow_add]
    _ = A * 2 ^ j * (B * 2 ^ q) := by rw [Nat.mul_assoc, Nat.mul_assoc, Nat.mul_assoc, Nat.mul_comm (2 ^ q) B]

theorem rdq_right {A B : Nat} {n : Nat} (hB : 0 < B) : rdq A (B * 2 ^ n) (n : Int) = rd (A * 2 ^ 1074) B := by
  unfold rdq
  obtain ⟨j, hj⟩ : ∃ j : Nat, j = 1074 := ⟨_, rfl⟩
  have hj2 : (1074 : Int) = (j : Int) := by omega
  rw [hj2, ← hj]
  have hp := Nat.two_pow_pos n
  have e1 : ((n : Int) + j).toNat = n + j := by omega
  have e2 : (-((n : Int) + j)).toNat = 0 := by omega
  rw [e1, e2]
  refine rd_congr (Nat.mul_pos (Nat.mul_pos hB hp) (by omega)) hB ?_
  rw [Nat.pow_add, Nat.pow_zero, Nat.mul_one]
  simp only [Nat.mul_assoc, Nat.mul_left_comm, Nat.mul_comm]

/-- the quotient, rounded. -/
theorem near_quo (vq : Value) (A B : Nat) (e : Int) (more : Bool) (w : World) (hA : A ≠ 0) (hB : B ≠ 0) (hbl : bl A = bl B + 56) (ha : Rd64 w vq (words (A / B))) (he0 : -500000 ≤ e) (he1 : e ≤ 500000)
    (hm : more = decide (A % B ≠ 0)) :
    Calls Tryz.prog 98 #[vq, .int .i64 e, .bool more] w fun en w' => en = .returned (.float .f64 (rdq A B e)) ∧ Below w.heap.size w w' := by
  obtain ⟨q1, q2⟩ := quo_bl hA hB hbl
  obtain ⟨d, hd⟩ : ∃ d : Nat, (d : Int) = max (((bl (A / B) : Nat) : Int) - 53) (-1074 - e) := ⟨_, Int.toNat_of_nonneg (by omega)⟩
  have hl : (words (A / B)).length ≤ 1000000 := by
    have := words_bl (A / B); omega
  exact near_round vq (A / B) A B d e more w ha hl he0 he1 (by omega) rfl hm (by omega) (by omega) (by omega) (by omega) (by omega)

set_option maxHeartbeats 1600000 in
theorem ratio_any (va vb : Value) (A B : Nat) (w : World) (ha : Rd64 w va (words A)) (hb : Rd64 w vb (words B)) (hA : A ≠ 0) (hB : B ≠ 0) (hlA : (words A).length ≤ 5000) (hlB : (words B).length ≤ 5000) :
    Calls Tryz.prog 57 #[va, vb] w fun en w' => en = .returned (.float .f64 (rd (A * 2 ^ 1074) B)) ∧ Below w.heap.size w w' := by
  have hxa := len_any va A w ha (by omega)
  have hxb := len_any vb B w hb (by omega)
  have hbA := bl_words_le A
  have hbB := bl_words_le B
  have HXA := Lib.hid hxa; have HXB := Lib.hid hxb
  clear hxa hxb
  obtain ⟨la, hla⟩ : ∃ la : Nat, la = bl A := ⟨_, rfl⟩
  obtain ⟨lb, hlb⟩ : ∃ lb : Nat, lb = bl B := ⟨_, rfl⟩
  rw [← hla] at HXA hbA; rw [← hlb] at HXB hbB
  have HLA := Lib.hid hla; have HLB := Lib.hid hlb
  have HA := Lib.hid ha; have HB := Lib.hid hb
  clear hla hlb ha hb
  go_enter Tryz.func57, Tryz.ntmps57
  go_wp2_with fail
  refine HXA.out.mono ?_
  rintro en w' ⟨rfl, rfl⟩
  go_wp2_with fail
  refine HXB.out.mono ?_
  rintro en w' ⟨rfl, rfl⟩
  go_upto_if 15 with (fail)
  go_cut [0, 1] (fun va' vb' wx => ∃ w1, w1 = wx ∧ Below w.heap.size w w1 ∧ ∃ A' B', Rd64 w1 va' (words A') ∧ Rd64 w1 vb' (words B') ∧ A' ≠ 0 ∧ B' ≠ 0 ∧ bl A' = bl B' + 56 ∧ rdq A' B' (-(56 - ((la : Int) - lb))) = rd (A * 2 ^ 1074) B ∧ (words A').length ≤ 500000 ∧ (words B').length ≤ 500000)
  case first =>
    have hlA2 : (words A).length ≤ 5000 := hlA
    by_cases hn : (la : Int) - lb ≤ 56
    · have hleft := left_any va A (56 - ((la : Int) - lb)) w HA.out (by omega) (by omega) (by omega)
      go_wp2_with fail
      refine hleft.mono ?_
      rintro en w1 ⟨v, rfl, hv, -, hb1⟩
      go_wp2_with fail
      go_meet
      have e1 := HLA.out; have e2 := HLB.out
      obtain ⟨n, hn2⟩ : ∃ n : Nat, (56 - ((la : Int) - lb)) = n := ⟨_, (Int.toNat_of_nonneg (by omega)).symm⟩
      rw [hn2, Int.toNat_natCast] at hv
      have h3 : bl (A * 2 ^ n) = bl B + 56 := by rw [bl_mul_pow hA]; omega
      have h4 := words_bl (A * 2 ^ n)
      refine ⟨_, rfl, hb1, A * 2 ^ n, B, hv, HB.out.below hb1, Nat.mul_ne_zero hA (by have := Nat.two_pow_pos n; omega), hB, h3, ?_, by omega, by omega⟩
      rw [hn2]; exact rdq_left (by omega)
    · have hleft := left_any vb B (-(56 - ((la : Int) - lb))) w HB.out (by omega) (by omega) (by omega)
      go_wp2_with fail
      refine hleft.mono ?_
      rintro en w1 ⟨v, rfl, hv, -, hb1⟩
      go_wp2_with fail
      go_meet
      have e1 := HLA.out; have e2 := HLB.out
      obtain ⟨n, hn2⟩ : ∃ n : Nat, -(56 - ((la : Int) - lb)) = n := ⟨_, (Int.toNat_of_nonneg (by omega)).symm⟩
      rw [hn2, Int.toNat_natCast] at hv
      have h3 : bl A = bl (B * 2 ^ n) + 56 := by rw [bl_mul_pow hB]; omega
      have h4 := words_bl (B * 2 ^ n)
      have h5 := bl_words_le A
      refine ⟨_, rfl, hb1, A, B * 2 ^ n, HA.out.below hb1, hv, hA, Nat.mul_ne_zero hB (by have := Nat.two_pow_pos n; omega), h3, ?_, by omega, by omega⟩
      rw [hn2]; exact rdq_right (by omega)
  case rest =>
    obtain ⟨w1, rfl, hb1, A', B', hva, hvb, hA', hB', hbl, hres, hl1, hl2⟩ := hcut
    have hq := quo_any _ _ A' B' w1 hva hvb hB' hl1 hl2
    have HQ := Lib.hid hq
    have HR := Lib.hid hres
    clear hq hva hvb hres
    go_wp2_with fail
    refine HQ.out.mono ?_
    rintro en w2 ⟨v1, v2, rfl, hv1, hv2, hb2⟩
    obtain ⟨p2, c2, rfl, hc2, hm2, hp2⟩ := hv2
    have hlen0 : ((words (A' % B')).length > 0) ↔ A' % B' ≠ 0 := by
      constructor
      · intro h h0; rw [h0, words_zero] at h; exact absurd h (by simp)
      · intro h
        rcases Nat.eq_zero_or_pos (words (A' % B')).length with h0 | h0
        · have := lt_pow_words (A' % B'); rw [h0, Nat.pow_zero] at this; omega
        · exact h0
    have hnear := near_quo v1 A' B' (-(56 - ((la : Int) - lb))) (!decide (A' % B' = 0)) w2 hA' hB' hbl hv1 (by omega) (by omega) (by rw [decide_not])
    have HN := Lib.hid hnear
    clear hnear hv1
    go_wp2_with fail
    refine HN.out.mono ?_
    rintro en w3 ⟨rfl, hb3⟩
    go_wp2_with fail
    go_ret
    exact ⟨ret_f64 HR.out, Below.seq (Below.seq hb1 hb2) hb3⟩

end Go.Proofs.YteophaobcebppaaGreatDoor.dg
