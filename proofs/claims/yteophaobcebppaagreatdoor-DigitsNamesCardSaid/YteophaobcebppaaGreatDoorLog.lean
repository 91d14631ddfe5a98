/- Plain: the logarithm, as the machine reckons it, of a number above 0 lies between -900 and 900. Conditions: none beyond what each says. -/
import Derived.Test.YteophaobcebppaaGreatDoorSv
import Derived.Laws.Externs
namespace Go.Proofs.YteophaobcebppaaGreatDoor.dg
open Ieee

/-- at most N / 1024. -/
structure Bd (N x : Nat) : Prop where
  num : Num x
  le : (sv x).natAbs ≤ N * ONE 1064

theorem ONE_split (a b : Nat) : ONE (a + b) = ONE a * ONE b := by unfold ONE; exact Nat.pow_add ..
theorem arith_pure {op : BinOp} {x y r : Nat} (h : Op.floatArith op .f64 x y = pure (.float .f64 r)) : Extern.MathAsm.arith op x y = pure r := by
  unfold Extern.MathAsm.arith
  rw [h]; rfl
theorem add_pure {x y r : Nat} (h : double.add x y = some r) : Extern.MathAsm.add x y = pure r := by
  refine arith_pure ?_
  have h2 : FloatKind.f64.format.add x y = some r := h
  unfold Op.floatArith
  simp only [h2]; rfl
theorem sub_pure {x y r : Nat} (h : double.sub x y = some r) : Extern.MathAsm.sub x y = pure r := by
  refine arith_pure ?_
  have h2 : FloatKind.f64.format.sub x y = some r := h
  unfold Op.floatArith
  simp only [h2]; rfl
theorem mul_pure {x y r : Nat} (h : double.mul x y = some r) : Extern.MathAsm.mul x y = pure r := by
  refine arith_pure ?_
  have h2 : FloatKind.f64.format.mul x y = some r := h
  unfold Op.floatArith
  simp only [h2]; rfl
theorem div_pure {x y r : Nat} (h : double.div x y = some r) : Extern.MathAsm.div x y = pure r := by
  refine arith_pure ?_
  have h2 : FloatKind.f64.format.div x y = some r := h
  unfold Op.floatArith
  simp only [h2]; rfl

theorem V_bigK {N K : Nat} (h : N ≤ 2 ^ 53) (hKT : K + 2 ≤ TOP) : ∃ r0, r0 < INF ∧ V r0 = N * ONE K := by
  obtain ⟨r, hr⟩ := V_surj K N h
  unfold ONE
  refine ⟨r, V_lt_iff.1 ?_, hr⟩
  rw [hr, V_INF]
  generalize TOP = T at *
  have h1 : N * 2 ^ K ≤ 2 ^ 53 * 2 ^ K := Nat.mul_le_mul_right _ h
  refine Nat.lt_of_le_of_lt h1 ?_
  rw [← Nat.pow_add, ← Nat.pow_add]
  exact Nat.pow_lt_pow_right (by omega) (by omega)
theorem V_big {N : Nat} (h : N ≤ 2 ^ 53) : ∃ r0, r0 < INF ∧ V r0 = N * ONE 1064 := V_bigK h (by decide)
theorem V_pow (s : Nat) : V (s * 2 ^ 52 + 2 ^ 52) = ONE (52 + s) := by
  rw [V_rung s (2 ^ 52) (by omega) (fun _ => Nat.le_refl _), ← Nat.pow_add]; unfold ONE; rfl

theorem Bd.of_rd {T : Int} {D r N : Nat} (h : Rd T D r) (hD : 0 < D) (hN : N ≤ 2 ^ 53) (hT : T.natAbs ≤ D * (N * ONE 1064)) : Bd N r := by
  obtain ⟨r0, h0, e⟩ := V_big hN
  rw [← e] at hT
  obtain ⟨a, b⟩ := h.abs hD h0 hT
  exact ⟨a, by rw [← e]; exact b⟩

theorem Bd.mono {N M x : Nat} (h : Bd N x) (hNM : N ≤ M) : Bd M x := ⟨h.num, Nat.le_trans h.le (Nat.mul_le_mul_right _ hNM)⟩

theorem add_bd {N M K x y : Nat} (hx : Bd N x) (hy : Bd M y) (h : N + M ≤ K) (hK : K ≤ 2 ^ 53) : ∃ r, Extern.MathAsm.add x y = pure r ∧ Bd K r ∧ Rd (sv x + sv y) 1 r := by
  obtain ⟨r, e, hr⟩ := add_sv hx.num hy.num
  refine ⟨r, add_pure e, Bd.of_rd hr (by omega) hK ?_, hr⟩
  have h1 := hx.le
  have h2 := hy.le
  have h3 : (N + M) * ONE 1064 ≤ K * ONE 1064 := Nat.mul_le_mul_right _ h
  rw [Nat.add_mul] at h3
  generalize ONE 1064 = u at *
  generalize sv x = a at *
  generalize sv y = b at *
  have := Int.natAbs_add_le a b
  omega

theorem sub_bd {N M K x y : Nat} (hx : Bd N x) (hy : Bd M y) (h : N + M ≤ K) (hK : K ≤ 2 ^ 53) : ∃ r, Extern.MathAsm.sub x y = pure r ∧ Bd K r ∧ Rd (sv x - sv y) 1 r := by
  obtain ⟨r, e, hr⟩ := sub_sv hx.num hy.num
  refine ⟨r, sub_pure e, Bd.of_rd hr (by omega) hK ?_, hr⟩
  have h1 := hx.le
  have h2 := hy.le
  have h3 : (N + M) * ONE 1064 ≤ K * ONE 1064 := Nat.mul_le_mul_right _ h
  rw [Nat.add_mul] at h3
  generalize ONE 1064 = u at *
  generalize sv x = a at *
  generalize sv y = b at *
  have := Int.natAbs_sub_le a b
  omega

theorem mul_bd {N M K x y : Nat} (hx : Bd N x) (hy : Bd M y) (h : N * M ≤ 1024 * K) (hK : K ≤ 2 ^ 53) : ∃ r, double.mul x y = some r ∧ Extern.MathAsm.mul x y = pure r ∧ Bd K r ∧ Rd (sv x * sv y) (ONE 1074) r := by
  obtain ⟨r, e, hr⟩ := mul_sv hx.num hy.num
  refine ⟨r, e, mul_pure e, Bd.of_rd hr (ONE_pos _) hK ?_, hr⟩
  have h1 := Nat.mul_le_mul hx.le hy.le
  have e3 : ONE 1074 = ONE 1064 * 1024 := by
    have : ONE (1064 + 10) = _ := ONE_split 1064 10
    rw [show ONE 10 = 1024 by unfold ONE; rfl] at this; exact this
  rw [Int.natAbs_mul, e3]
  refine Nat.le_trans h1 ?_
  have e4 : N * ONE 1064 * (M * ONE 1064) = ONE 1064 * ONE 1064 * (N * M) := by
    simp only [Nat.mul_assoc, Nat.mul_left_comm, Nat.mul_comm]
  have e5 : ONE 1064 * 1024 * (K * ONE 1064) = ONE 1064 * ONE 1064 * (1024 * K) := by
    simp only [Nat.mul_assoc, Nat.mul_left_comm, Nat.mul_comm]
  rw [e4, e5]
  exact Nat.mul_le_mul_left _ h

/-- the digits of a quotient, with the mark of what is left, are at most three halves of it. -/
theorem quo_digits {m n d : Nat} (hn : 0 < n) (hd : 1 ≤ d) : n * (2 * ((m <<< (d + n.log2 - m.log2)) / n) + ((m <<< (d + n.log2 - m.log2)) % n != 0).toNat) ≤ 3 * (m * 2 ^ (d + n.log2 - m.log2)) := by
  rw [Nat.shiftLeft_eq]
  by_cases hm : m = 0
  · subst hm; simp
  have h1 : 2 ^ m.log2 ≤ m := Nat.log2_self_le hm
  have h2 : n < 2 ^ (n.log2 + 1) := Nat.lt_log2_self
  have h3 : n ≤ m * 2 ^ (d + n.log2 - m.log2) := by
    have h4 : 2 ^ (n.log2 + 1) ≤ 2 ^ (m.log2 + (d + n.log2 - m.log2)) := Nat.pow_le_pow_right (by omega) (by omega)
    rw [Nat.pow_add 2 m.log2] at h4
    have h5 : 2 ^ m.log2 * 2 ^ (d + n.log2 - m.log2) ≤ m * 2 ^ (d + n.log2 - m.log2) := Nat.mul_le_mul_right _ h1
    omega
  generalize m * 2 ^ (d + n.log2 - m.log2) = D at *
  have h6 := Nat.div_add_mod D n
  have h7 : 1 ≤ D / n := (Nat.one_le_div_iff hn).2 h3
  have h8 : n * 1 ≤ n * (D / n) := Nat.mul_le_mul_left _ h7
  rw [Nat.mul_add, Nat.mul_left_comm]
  have h9 : n * (D % n != 0).toNat ≤ n := by cases (D % n != 0) <;> simp
  omega

theorem div_bd {N K x y : Nat} (hx : Bd N x) (hy : Num y) (hy1 : ONE 1074 ≤ (sv y).natAbs) (h : 3 * N ≤ 2 * K) (hK : K ≤ 2 ^ 53) : ∃ r, Extern.MathAsm.div x y = pure r ∧ Bd K r := by
  suffices h : ∃ r, double.div x y = some r ∧ Bd K r by
    obtain ⟨r, e, b⟩ := h
    exact ⟨r, div_pure e, b⟩
  have hxl := hx.le
  rw [sv_abs] at hxl hy1
  rw [V_mg] at hxl hy1
  unfold Format.div
  rw [read_fin hx.num.word hx.num.fin, read_fin hy.word hy.fin]
  generalize decide (2 ^ 63 ≤ x) = bx
  generalize decide (2 ^ 63 ≤ y) = bz
  generalize mg (x % 2 ^ 63) = m at *
  generalize mg (y % 2 ^ 63) = n at *
  generalize pl (x % 2 ^ 63) = p at *
  generalize pl (y % 2 ^ 63) = q at *
  have hn : n ≠ 0 := by
    intro e; rw [e, Nat.zero_mul] at hy1
    have := ONE_pos 1074
    omega
  obtain ⟨r0, h0, e0⟩ := V_big hK
  have hd : 1 ≤ double.fractionBits + 2 := by decide
  generalize double.fractionBits + 2 = d at hd
  simp only [Datum.quotient, if_neg hn, Option.map_some, Format.write, nearest_rz]
  refine ⟨_, rfl, ?_⟩
  have hq := quo_digits (m := m) (n := n) (d := d) (by omega) hd
  generalize d + n.log2 - m.log2 = more at *
  generalize (2 * ((m <<< more) / n) + ((m <<< more) % n != 0).toNat) = mag at *
  obtain ⟨K1, hK1⟩ : ∃ K1 : Nat, K1 = 1074 := ⟨_, rfl⟩
  obtain ⟨k, hk⟩ : ∃ k : Int, k = ((p : Nat) - 1074 : Int) - ((q : Nat) - 1074 : Int) - more - 1 + 1074 := ⟨_, rfl⟩
  rw [← hk]
  have hk2 : k.toNat + (q + more + 1) = (-k).toNat + (p + K1) := by omega
  have key : rz mag k ≤ r0 := by
    unfold rz
    refine rd_upper (Nat.two_pow_pos _) (Nat.le_of_lt h0) ?_
    have hp2 : 0 < n * 2 ^ (q + more + 1) := Nat.mul_pos (by omega) (Nat.two_pow_pos _)
    refine Nat.le_of_mul_le_mul_right ?_ hp2
    have f1 : mag * 2 ^ k.toNat * (n * 2 ^ (q + more + 1)) = n * mag * 2 ^ (p + K1) * 2 ^ (-k).toNat := by
      have : 2 ^ k.toNat * 2 ^ (q + more + 1) = 2 ^ (p + K1) * 2 ^ (-k).toNat := by rw [← Nat.pow_add, ← Nat.pow_add, hk2, Nat.add_comm]
      have e1 : mag * 2 ^ k.toNat * (n * 2 ^ (q + more + 1)) = n * mag * (2 ^ k.toNat * 2 ^ (q + more + 1)) := by
        simp only [Nat.mul_assoc, Nat.mul_left_comm, Nat.mul_comm]
      rw [e1, this, Nat.mul_assoc (n * mag)]
    rw [f1]
    have f2 : n * mag * 2 ^ (p + K1) ≤ 2 ^ more * 2 ^ K1 * (3 * (N * ONE 1064)) := by
      have g1 : n * mag * 2 ^ (p + K1) ≤ 3 * (m * 2 ^ more) * 2 ^ (p + K1) := Nat.mul_le_mul_right _ hq
      have g2 : 3 * (m * 2 ^ more) * 2 ^ (p + K1) = 2 ^ more * 2 ^ K1 * (3 * (m * 2 ^ p)) := by
        rw [Nat.pow_add]; simp only [Nat.mul_assoc, Nat.mul_left_comm, Nat.mul_comm]
      rw [g2] at g1
      exact Nat.le_trans g1 (Nat.mul_le_mul_left _ (Nat.mul_le_mul_left _ hxl))
    have f3 : 2 ^ more * 2 ^ K1 * (2 * (K * ONE 1064)) ≤ V r0 * (n * 2 ^ (q + more + 1)) := by
      rw [e0]
      have g1 : n * 2 ^ (q + more + 1) = n * 2 ^ q * (2 ^ more * 2) := by
        rw [Nat.pow_succ, Nat.pow_add]; simp only [Nat.mul_assoc]
      have g2 : ONE 1074 = 2 ^ K1 := by rw [hK1]; unfold ONE; rfl
      rw [g1]
      have g3 : 2 ^ K1 * (2 ^ more * 2) ≤ n * 2 ^ q * (2 ^ more * 2) := by
        rw [← g2]; exact Nat.mul_le_mul_right _ hy1
      have g4 := Nat.mul_le_mul_left (K * ONE 1064) g3
      have g5 : 2 ^ more * 2 ^ K1 * (2 * (K * ONE 1064)) = K * ONE 1064 * (2 ^ K1 * (2 ^ more * 2)) := by
        simp only [Nat.mul_assoc, Nat.mul_left_comm, Nat.mul_comm]
      rw [g5]; exact g4
    have f4 : 3 * (N * ONE 1064) ≤ 2 * (K * ONE 1064) := by
      rw [← Nat.mul_assoc, ← Nat.mul_assoc]; exact Nat.mul_le_mul_right _ h
    have f5 := Nat.le_trans f2 (Nat.le_trans (Nat.mul_le_mul_left _ f4) f3)
    have f6 := Nat.mul_le_mul_right (2 ^ (-k).toNat) f5
    have e2 : V r0 * (n * 2 ^ (q + more + 1)) * 2 ^ (-k).toNat = 2 ^ (-k).toNat * V r0 * (n * 2 ^ (q + more + 1)) := by
      simp only [Nat.mul_assoc, Nat.mul_left_comm, Nat.mul_comm]
    rw [← e2]; exact f6
  obtain ⟨a, b⟩ := word_val (bx ^^ bz) (k := rz mag k) (by omega)
  refine ⟨a, ?_⟩
  rw [b, ← e0]
  have h9 := V_le key
  generalize V (rz mag k) = v1 at *
  generalize V r0 = v0 at *
  split <;> omega

theorem const_bd {c j : Nat} (hj : j ≤ 20) (h : c ≤ (1023 + j) * 2 ^ 52) : Bd (2 ^ (10 + j)) c := by
  have hc : c < INF := by have := INF_val; omega
  refine ⟨Num.small hc, ?_⟩
  rw [sv_small hc, Int.natAbs_natCast]
  have h1 := V_le h
  have e : (1023 + j) * 2 ^ 52 = (1022 + j) * 2 ^ 52 + 2 ^ 52 := by omega
  rw [e, V_pow] at h1
  have e2 : 52 + (1022 + j) = 10 + j + 1064 := by omega
  have e3 : 2 ^ (10 + j) = ONE (10 + j) := by unfold ONE; rfl
  rw [e2, ONE_split, ← e3] at h1; exact h1

theorem V_one : V 4607182418800017408 = ONE 1074 := by
  have e : 4607182418800017408 = 1022 * 2 ^ 52 + 2 ^ 52 := by omega
  rw [e, V_pow]
theorem V_two : V 4611686018427387904 = 2 * ONE 1074 := by
  have e : 4611686018427387904 = 1023 * 2 ^ 52 + 2 ^ 52 := by omega
  have e2 : 2 * ONE 1074 = ONE 1075 := by
    have : ONE (1 + 1074) = _ := ONE_split 1 1074
    rw [show ONE 1 = 2 by unfold ONE; rfl] at this; exact this.symm
  rw [e, V_pow, e2]

theorem pure_s {α β : Type} (a : α) (f : α → Sem β) : (pure a >>= f) = f a := rfl

theorem int_bd {n : Int} (h : n.natAbs ≤ 1024) : Bd 1048576 (Extern.MathAsm.ofInt32 n) := by
  have e : Extern.MathAsm.ofInt32 n = double.word (decide (n < 0)) (rd (n * ((ONE 1074 : Nat) : Int)).natAbs 1) := by
    show double.nearest (decide (n < 0)) n.natAbs 0 = _
    rw [nearest_rz]
    refine congrArg (double.word _) ?_
    unfold rz ONE
    obtain ⟨K, hK⟩ : ∃ K : Nat, K = 1074 := ⟨_, rfl⟩
    rw [← hK]
    have e1 : ((0 : Int) + 1074).toNat = K := by omega
    have e2 : (-((0 : Int) + 1074)).toNat = 0 := by omega
    rw [e1, e2, natAbs_mul_pow, Nat.pow_zero]
  have hp : (0 : Int) < ((ONE 1074 : Nat) : Int) := by have := ONE_pos 1074; omega
  have h2 : Rd (n * ((ONE 1074 : Nat) : Int)) 1 (Extern.MathAsm.ofInt32 n) := by
    refine ⟨_, e, fun hne => ?_⟩
    by_cases hlt : n < 0
    · rw [decide_eq_true hlt, decide_eq_true (Int.mul_neg_of_neg_of_pos hlt hp)]
    · have := Int.mul_nonneg (a := n) (by omega) (Int.le_of_lt hp)
      rw [decide_eq_false hlt, decide_eq_false (by omega)]
  refine Bd.of_rd h2 (by omega) (by omega) ?_
  have h10 : ONE 1074 = 1024 * ONE 1064 := by
    have : ONE (10 + 1064) = _ := ONE_split 10 1064
    rw [show ONE 10 = 1024 by unfold ONE; rfl] at this; exact this
  rw [Int.natAbs_mul, Int.natAbs_natCast, h10, ← Nat.mul_assoc, Nat.one_mul]
  exact Nat.mul_le_mul_right _ (by omega)

set_option maxRecDepth 100000 in
open Extern.MathAsm in
theorem archlog_bd {x : Nat} (h0 : 0 < x) (h1 : x < INF) : ∃ r, Extern.MathLog.archLog #[.float .f64 x] = pure (.float .f64 r) ∧ Bd 3000000 r := by
  have hI := INF_val
  have hI2 := INF_lt
  have e0 : x % 2 ^ 63 = x := Nat.mod_eq_of_lt (by omega)
  have bone : Bd 1024 one := const_bd (j := 0) (by omega) (by decide)
  have bone2 : Bd 2048 one := bone.mono (by omega)
  have btwo : Bd 2048 two := const_bd (j := 1) (by omega) (by decide)
  have bhalf : Bd 1024 half := const_bd (j := 0) (by omega) (by decide)
  have bzero : Bd 1024 0 := const_bd (j := 0) (by omega) (by omega)
  have bf1 : Bd 1024 (x % 2 ^ 52 + half) := const_bd (j := 0) (by omega) (by unfold half; omega)
  have sf1 : 0 ≤ sv (x % 2 ^ 52 + half) := by rw [sv_small (by unfold half; omega)]; exact Int.natCast_nonneg _
  have bk : Bd 1048576 (ofInt32 (Int.ofNat (x / 2 ^ 52) - 0x3FE)) := int_bd (by
    have : x / 2 ^ 52 ≤ 2046 := by omega
    simp only [Int.ofNat_eq_natCast]; omega)
  delta Extern.MathLog.archLog Extern.MathLog.archLog.match_1
  dsimp only [List.size_toArray, List.length_cons, List.length_nil, Array.getLit]
  rw [dif_pos (show (#[Value.float .f64 x]).size = 1 from rfl)]
  have e1 : ((#[Value.float FloatKind.f64 x])[0]'Nat.zero_lt_one : Value) = .float .f64 x := rfl
  rw [e1]
  delta Extern.MathLog.archLog._sparseCasesOn_1 Extern.MathLog.archLog._sparseCasesOn_2
  dsimp only
  have c1 : ¬ ((x % 2 ^ 63 == 0) = true) := by rw [e0]; simp; omega
  have c2 : ¬ x ≥ 2 ^ 63 := by omega
  have c3 : ¬ x ≥ posInf := by unfold posInf; omega
  rw [if_neg c1, if_neg c2, if_neg c3]
  generalize (!lt 4604544271217802189 (x % 2 ^ 52 + half)) = small
  generalize x % 2 ^ 52 + half = f0 at *
  generalize ofInt32 (Int.ofNat (x / 2 ^ 52) - 0x3FE) = k0 at *
  have bsm : Bd 1024 (if small = true then one else 0) := by split <;> assumption
  have ssm : 0 ≤ sv (if small = true then one else 0) := by
    split
    · rw [sv_small (by unfold one; omega)]; exact Int.natCast_nonneg _
    · rw [sv_small (by omega)]; exact Int.natCast_nonneg _
  generalize (if small = true then one else 0) = sm at *
  have vone : sv one = (ONE 1074 : Int) := by
    rw [sv_small (by unfold one; omega)]; unfold one; rw [V_one]
  have vtwo : sv two = (2 * ONE 1074 : Int) := by
    rw [sv_small (by unfold two; omega)]; unfold two; rw [V_two]; rfl
  have h10 : ONE 1074 = 1024 * ONE 1064 := by
    have : ONE (10 + 1064) = _ := ONE_split 10 1064
    rw [show ONE 10 = 1024 by unfold ONE; rfl] at this; exact this
  obtain ⟨k, e, Bk, -⟩ := sub_bd (K := 1049600) bk bsm (by omega) (by omega); rw [e, pure_s]; clear e
  obtain ⟨g, e, Bg, Rg⟩ := add_bd (K := 2048) bsm bone (by omega) (by omega); rw [e, pure_s]; clear e
  obtain ⟨f1, -, e, Bf1, Rf1⟩ := mul_bd (K := 2048) bf1 Bg (by omega) (by omega); rw [e, pure_s]; clear e
  have sg : 0 ≤ sv g := by
    have := Rg.low (by omega) Bg.num INF_pos (by rw [V_zero, vone]; have := ONE_pos 1074; omega)
    rw [V_zero] at this; exact this
  have sf : 0 ≤ sv f1 := by
    have := Rf1.low (ONE_pos _) Bf1.num INF_pos (by rw [V_zero, Nat.mul_zero]; exact Int.mul_nonneg sf1 sg)
    rw [V_zero] at this; exact this
  obtain ⟨f, e, -, Rf⟩ := sub_bd (K := 4096) Bf1 bone2 (by omega) (by omega); rw [e, pure_s]; clear e
  have Bf : Bd 1024 f := by
    refine Bd.of_rd Rf (by omega) (by omega) ?_
    have := Bf1.le
    rw [vone, h10]
    generalize ONE 1064 = u at *
    generalize sv f1 = a at *
    omega
  obtain ⟨g2, e, Bg2, Rg2⟩ := add_bd (K := 4096) btwo Bf (by omega) (by omega); rw [e, pure_s]; clear e
  have sg2 : ONE 1074 ≤ (sv g2).natAbs := by
    have h := Rg2.low (r0 := 4607182418800017408) (by omega) Bg2.num (by omega) (by
      have := Bf.le
      rw [V_one, vtwo]
      rw [← h10] at this
      generalize ONE 1074 = u at *
      generalize sv f = a at *
      omega)
    rw [V_one] at h
    generalize ONE 1074 = u at *
    generalize sv g2 = a at *
    omega
  obtain ⟨s, e, Bs⟩ := div_bd (K := 1536) Bf Bg2.num sg2 (by omega) (by omega); rw [e, pure_s]; clear e
  obtain ⟨s2, -, e, Bs2, -⟩ := mul_bd (K := 2304) Bs Bs (by omega) (by omega); rw [e, pure_s]; clear e
  obtain ⟨s4, -, e, Bs4, -⟩ := mul_bd (K := 5184) Bs2 Bs2 (by omega) (by omega); rw [e, pure_s]; clear e
  have bc : ∀ c, c ≤ 1023 * 2 ^ 52 → Bd 1024 c := fun c h => const_bd (j := 0) (by omega) h
  obtain ⟨a1, -, e, B1, -⟩ := mul_bd (K := 5184) (bc 4594499633228436036 (by omega)) Bs4 (by omega) (by omega); rw [e, pure_s]; clear e
  obtain ⟨a2, e, B2, -⟩ := add_bd (K := 6208) B1 (bc 4595719342595441630 (by omega)) (by omega) (by omega); rw [e, pure_s]; clear e
  obtain ⟨a3, -, e, B3, -⟩ := mul_bd (K := 31428) B2 Bs4 (by omega) (by omega); rw [e, pure_s]; clear e
  obtain ⟨a4, e, B4, -⟩ := add_bd (K := 32452) B3 (bc 4598818590951641945 (by omega)) (by omega) (by omega); rw [e, pure_s]; clear e
  obtain ⟨a5, -, e, B5, -⟩ := mul_bd (K := 164289) B4 Bs4 (by omega) (by omega); rw [e, pure_s]; clear e
  obtain ⟨a6, e, B6, -⟩ := add_bd (K := 165313) B5 (bc 4604180019048437139 (by omega)) (by omega) (by omega); rw [e, pure_s]; clear e
  obtain ⟨t1, -, e, T1, -⟩ := mul_bd (K := 371955) Bs2 B6 (by omega) (by omega); rw [e, pure_s]; clear e
  obtain ⟨a7, -, e, B7, -⟩ := mul_bd (K := 5184) (bc 4594685411790997151 (by omega)) Bs4 (by omega) (by omega); rw [e, pure_s]; clear e
  obtain ⟨a8, e, B8, -⟩ := add_bd (K := 6208) B7 (bc 4597174411056806063 (by omega)) (by omega) (by omega); rw [e, pure_s]; clear e
  obtain ⟨a9, -, e, B9, -⟩ := mul_bd (K := 31428) B8 Bs4 (by omega) (by omega); rw [e, pure_s]; clear e
  obtain ⟨a10, e, B10, -⟩ := add_bd (K := 32452) B9 (bc 4600877379321592324 (by omega)) (by omega) (by omega); rw [e, pure_s]; clear e
  obtain ⟨t2, -, e, T2, -⟩ := mul_bd (K := 164289) Bs4 B10 (by omega) (by omega); rw [e, pure_s]; clear e
  obtain ⟨r, e, Br, -⟩ := add_bd (K := 536244) T1 T2 (by omega) (by omega); rw [e, pure_s]; clear e
  obtain ⟨b1, -, e, C1, -⟩ := mul_bd (K := 1024) bhalf Bf (by omega) (by omega); rw [e, pure_s]; clear e
  obtain ⟨hf, -, e, Hf, -⟩ := mul_bd (K := 1024) C1 Bf (by omega) (by omega); rw [e, pure_s]; clear e
  obtain ⟨b2, e, C2, -⟩ := add_bd (K := 537268) Br Hf (by omega) (by omega); rw [e, pure_s]; clear e
  obtain ⟨b3, -, e, C3, -⟩ := mul_bd (K := 805902) Bs C2 (by omega) (by omega); rw [e, pure_s]; clear e
  obtain ⟨b4, -, e, C4, -⟩ := mul_bd (K := 1049600) (bc 4461442080421002358 (by omega)) Bk (by omega) (by omega); rw [e, pure_s]; clear e
  obtain ⟨inn, e, Bi, -⟩ := add_bd (K := 1855502) C3 C4 (by omega) (by omega); rw [e, pure_s]; clear e
  obtain ⟨b5, -, e, C5, -⟩ := mul_bd (K := 1049600) Bk (bc 4604418534311723008 (by omega)) (by omega) (by omega); rw [e, pure_s]; clear e
  obtain ⟨b6, e, C6, -⟩ := sub_bd (K := 1856526) Hf Bi (by omega) (by omega); rw [e, pure_s]; clear e
  obtain ⟨b7, e, C7, -⟩ := sub_bd (K := 1857550) C6 Bf (by omega) (by omega); rw [e, pure_s]; clear e
  obtain ⟨z, e, Bz, -⟩ := sub_bd (K := 3000000) C5 C7 (by omega) (by omega); rw [e, pure_s]; clear e
  exact ⟨z, rfl, Bz⟩

end Go.Proofs.YteophaobcebppaaGreatDoor.dg
