/- The walk of large.Right. Conditions: the lists are short enough to lie in memory. -/
import Derived.Test.YteophaobcebppaaGreatDoorNatF
import Derived.Deep.RegionLaw
set_option linter.unusedSimpArgs false
namespace Go.Proofs.YteophaobcebppaaGreatDoor.dg
open Go.RowKit
set_option linter.unusedVariables false

theorem Rd64.drop {w : World} {b off cap : Nat} {l : List Nat} (h : Rd64 w (.slice (some ⟨b, off, none⟩) l.length cap) l) (k : Nat) (hk : k ≤ l.length) (off' : Nat) (ho : k < l.length → off' = off + k) : Rd64 w (.slice (some ⟨b, off', none⟩) (l.length - k) (cap - k)) (l.drop k) := by
  obtain ⟨p', cap', e, h1, h2, h3⟩ := h
  simp only [Value.slice.injEq] at e
  obtain ⟨rfl, -, rfl⟩ := e
  refine ⟨_, cap - k, by rw [List.length_drop], by rw [List.length_drop]; omega, by omega, fun hne => ?_⟩
  have hlt : k < l.length := by
    rcases Nat.lt_or_ge k l.length with h | h
    · exact h
    · exact absurd (List.drop_eq_nil_of_le h) hne
  obtain ⟨b', off'', e, hc⟩ := h3 (by rintro rfl; simp at hlt)
  simp only [Option.some.injEq, Addr.mk.injEq] at e
  obtain ⟨rfl, rfl, -⟩ := e
  refine ⟨b, off', rfl, fun i hi => ?_⟩
  rw [List.length_drop] at hi
  rw [ho hlt, Nat.add_assoc, hc (k + i) (by omega), nth_drop]

theorem right_word (x y r : Nat) (hx : x < B64) (hy : y < B64) (hr : r < 64) :
    ∃ s : Nat, s < B64 ∧ bits .or .u64 ((x : Int) / 2 ^ r) (IntKind.u64.wrap (IntKind.u64.wrap ((y : Int) * 2) * 2 ^ (63 - r))) = (s : Int) ∧ s = x / 2 ^ r + 2 ^ (64 - r) * (y % 2 ^ r) := by
  have hB : B64 = 2 ^ (64 - r) * 2 ^ r := by rw [B64_pow, ← Nat.pow_add]; congr 1; omega
  have e1 : (x : Int) / 2 ^ r = ((x / 2 ^ r : Nat) : Int) := by rw [Int.natCast_ediv, cast_pow]
  have e2 : IntKind.u64.wrap (IntKind.u64.wrap ((y : Int) * 2) * 2 ^ (63 - r)) = ((2 ^ (64 - r) * (y % 2 ^ r) : Nat) : Int) := by
    have a1 : (y : Int) * 2 = ((y * 2 : Nat) : Int) := by omega
    rw [a1, wrap_nat, ← cast_pow, ← Int.natCast_mul, wrap_nat]
    congr 1
    rw [Nat.mod_mul_mod, Nat.mul_assoc, show 2 * 2 ^ (63 - r) = 2 ^ (64 - r) from by rw [show 64 - r = (63 - r) + 1 from by omega, Nat.pow_succ, Nat.mul_comm], Nat.mul_comm, hB, Nat.mul_mod_mul_left]
  have hx2 : x / 2 ^ r < 2 ^ (64 - r) := by rw [Nat.div_lt_iff_lt_mul (Nat.two_pow_pos _), ← hB]; exact hx
  have hy2 : 2 ^ (64 - r) * (y % 2 ^ r) + 2 ^ (64 - r) ≤ B64 := by
    rw [hB, ← Nat.mul_succ]
    exact Nat.mul_le_mul_left _ (Nat.mod_lt _ (Nat.two_pow_pos _))
  have hp := Nat.two_pow_pos (64 - r)
  have hx3 : x / 2 ^ r ≤ x := Nat.div_le_self _ _
  rw [e1, e2, bits_or_nat _ _ (by omega) (by omega), Nat.or_comm, ← Nat.two_pow_add_eq_or_of_lt hx2]
  exact ⟨_, by omega, rfl, by omega⟩

theorem val_drop {a : List Nat} {j : Nat} (h : j < a.length) : val (a.drop j) = nth a j + B64 * val (a.drop (j + 1)) := by
  rw [List.drop_eq_getElem_cons h, nth_get h]; rfl

theorem val_drop_mod (a : List Nat) (j r : Nat) (hr : r < 64) : val (a.drop j) % 2 ^ r = nth a j % 2 ^ r := by
  by_cases h : j < a.length
  · rw [val_drop h, show B64 = 2 ^ r * 2 ^ (64 - r) from by rw [B64_pow, ← Nat.pow_add]; congr 1; omega, Nat.mul_assoc, Nat.add_mul_mod_self_left]
  · rw [List.drop_eq_nil_of_le (by omega), nth_beyond (by omega)]; rfl

theorem right_step {a xs : List Nat} {q k s r : Nat} (hr : r < 64) (hk : q + k < a.length) (hx : xs.length = k) (hv : val xs + B64 ^ k * (val (a.drop (q + k)) / 2 ^ r) = val (a.drop q) / 2 ^ r)
    (h : s = nth a (q + k) / 2 ^ r + 2 ^ (64 - r) * (nth a (q + k + 1) % 2 ^ r)) :
    val (xs ++ [s]) + B64 ^ (k + 1) * (val (a.drop (q + (k + 1))) / 2 ^ r) = val (a.drop q) / 2 ^ r := by
  rw [val_snoc, hx, ← Nat.add_assoc q, ← hv, Nat.add_assoc, Nat.pow_succ, Nat.mul_assoc, ← Nat.mul_add]
  congr 2
  have hB : B64 = 2 ^ r * 2 ^ (64 - r) := by rw [B64_pow, ← Nat.pow_add]; congr 1; omega
  have e : (nth a (q + k) + B64 * val (a.drop (q + k + 1))) / 2 ^ r = nth a (q + k) / 2 ^ r + 2 ^ (64 - r) * val (a.drop (q + k + 1)) := by
    rw [hB, Nat.mul_assoc, Nat.add_mul_div_left _ _ (Nat.two_pow_pos r)]
  rw [val_drop hk, e, h, ← val_drop_mod a (q + k + 1) r hr, Nat.add_assoc]
  congr 1
  have h5 := Nat.div_add_mod (val (a.drop (q + k + 1))) (2 ^ r)
  generalize val (a.drop (q + k + 1)) = D at *
  rw [hB, Nat.mul_comm (2 ^ r) (2 ^ (64 - r)), Nat.mul_assoc, ← Nat.mul_add, Nat.add_comm, h5]

/-- append onto a row of the call's own, as one step of a region that draws. -/
theorem step_append_own {P : Program} {ops : Array Oper} {o : Oper} {a : Act} {w : World} {K : Act → World → Prop} {Q : Exit → Act → World → Prop} {E : Prop}
    (hg : o.guard = none) (s x : Operand) (t : TypeId) (hop : o.op = Op.call { callee := Callee.builtin Builtin.append, args := #[s, x], argTypes := #[t, t] })
    (base : Nat) (e : TypeId) (i : TypeInfo) (z : Value) (size bytes : Nat) (ht : P.underlying t = some (.slice e)) (hi : P.info? e = some i) (hz : i.zero = some z)
    (hsize : i.size = size) (hby : i.bytes = bytes) (hzs : z.cells.size = size) (hsz : 0 < size)
    (v : Value) (n : Nat) (xs : List Value) (hs : a.eval s = v) (hown : w.ownsRow base e size v n xs)
    (ad : Addr) (m c : Nat) (news : List Value) (hx : a.eval x = .slice (some ad) m c) (hl : news.length = m * size) (hnews : ∀ j u, news[j]? = some u → w.cell? (ad.add j) = some u) (h1 : ∀ u ∈ news, u.oneCell' = true)
    (h63 : n + m ≤ maxLen) (hbytes : (n + m) * bytes ≤ 140737488355328) (hbase : base ≤ w.heap.size)
    (h : ∀ v' w', w'.ownsRow base e size v' (n + m) (xs ++ news) → w.grownBy w' v.ownBlock → (v' = .slice none 0 0 ↔ v = .slice none 0 0 ∧ m = 0) → K (a.put o.dst v') w') :
    if Region.wanted o (yielded ops a.tmps) = true then Oper.wp P o a w K Q else E := by
  have hw : Region.wanted o (yielded ops a.tmps) = true := by simp [Region.wanted, hg]
  rw [if_pos hw]
  exact wp_append_own w s x t hop base e i z size bytes ht hi hz hsize hby hzs hsz v n xs hs hown ad m c news hx hl hnews h1 h63 hbytes hbase h

theorem ne_zero_bool (n : Nat) : Value.bool (((n : Nat) : Int) != 0) = Value.bool (decide (n ≠ 0)) := by
  congr 1
  by_cases h : n = 0
  · subst h; rfl
  · simp [h]

theorem and_mask {x r : Nat} (hx : x < B64) (hr : r < 64) : bits .and .u64 (x : Int) (IntKind.u64.wrap (IntKind.u64.wrap (2 ^ r) - 1)) = ((x % 2 ^ r : Nat) : Int) := by
  have h1 : 2 ^ r < B64 := by rw [B64_pow]; exact Nat.pow_lt_pow_right (by omega) hr
  have h0 := Nat.two_pow_pos r
  have e1 : IntKind.u64.wrap (2 ^ r) = ((2 ^ r : Nat) : Int) := by rw [← cast_pow, wrap_nat, Nat.mod_eq_of_lt h1]
  have e2 : ((2 ^ r : Nat) : Int) - 1 = ((2 ^ r - 1 : Nat) : Int) := by omega
  rw [e1, e2, wrap_nat, Nat.mod_eq_of_lt (by omega : 2 ^ r - 1 < B64), bits_and_nat _ _ hx (by omega), Nat.and_two_pow_sub_one_eq_mod]

theorem right_parts {a : List Nat} {A m q r : Nat} (hs : Small a) (hA : val a = A) (hm : m = 64 * q + r) (hq : q < a.length) (hr : r < 64) :
    A / 2 ^ m = val (a.drop q) / 2 ^ r ∧ decide (A % 2 ^ m ≠ 0) = (decide (val (a.take q) ≠ 0) || decide (nth a q % 2 ^ r ≠ 0)) := by
  have e1 : (2 : Nat) ^ m = B64 ^ q * 2 ^ r := by rw [hm, Nat.pow_add, Nat.pow_mul, ← B64_pow]
  have e2 : A = val (a.take q) + B64 ^ q * val (a.drop q) := by
    rw [← hA]
    have := val_append (a.take q) (a.drop q)
    rw [List.take_append_drop, List.length_take, Nat.min_eq_left (by omega)] at this
    exact this
  have hB := Nat.pow_pos (n := q) B64_pos
  have h1 : ∀ b : List Nat, Small b → b.length = q → val b < B64 ^ q := fun b hb hl => by rw [← hl]; exact val_lt hb
  have h2 := h1 (a.take q) (hs.take q) (by rw [List.length_take]; omega)
  have e3 : A / B64 ^ q = val (a.drop q) := by rw [e2, Nat.add_mul_div_left _ _ hB, Nat.div_eq_of_lt h2, Nat.zero_add]
  have e4 : A % B64 ^ q = val (a.take q) := by rw [e2, Nat.add_mul_mod_self_left, Nat.mod_eq_of_lt h2]
  constructor
  · rw [e1, ← Nat.div_div_eq_div_mul, e3]
  · rw [e1, Nat.mod_mul, e3, e4, val_drop_mod a q r hr]
    by_cases ha : val (a.take q) = 0
    · by_cases hb : nth a q % 2 ^ r = 0
      · simp [ha, hb]
      · have : B64 ^ q * (nth a q % 2 ^ r) ≠ 0 := Nat.mul_ne_zero (by omega) hb
        simp [ha, hb, this]
    · have : val (a.take q) + B64 ^ q * (nth a q % 2 ^ r) ≠ 0 := by omega
      simp [ha, this]

theorem right_end {a : List Nat} {A m q r : Nat} (hs : Small a) (hA : val a = A) (hm : m = 64 * q + r) (hq : q = a.length) :
    A / 2 ^ m = 0 ∧ decide (A % 2 ^ m ≠ 0) = decide (val a ≠ 0) := by
  have hlt : A < 2 ^ m := by
    have h := val_lt hs
    rw [hA] at h
    have : B64 ^ a.length ≤ 2 ^ m := by
      rw [B64_pow, ← Nat.pow_mul, hm]; exact Nat.pow_le_pow_right (by omega) (by omega)
    omega
  rw [Nat.div_eq_of_lt hlt, Nat.mod_eq_of_lt hlt, hA]
  exact ⟨rfl, rfl⟩

theorem Rd64.take3 {w : World} {p : Option Addr} {cap : Nat} {l : List Nat} (h : Rd64 w (.slice p l.length cap) l) (k : Nat) (hk : k ≤ l.length) : Rd64 w (.slice p k k) (l.take k) := by
  obtain ⟨p', cap', e, h1, h2, h3⟩ := h.take k hk
  simp only [Value.slice.injEq] at e
  obtain ⟨rfl, hl, rfl⟩ := e
  exact ⟨p, k, by rw [← hl], by omega, by omega, h3⟩

set_option maxHeartbeats 400000 in
set_option maxRecDepth 100000 in
theorem right_any (va : Value) (A : Nat) (n : Int) (w : World) (ha : Rd64 w va (words A)) (hl : (words A).length ≤ 1048576) (hn0 : 0 ≤ n) (hn1 : n ≤ 67108864) :
    Calls Tryz.prog 79 #[va, .int .i64 n] w fun e w' => ∃ v, e = .returned (.tuple #[v, .bool (decide (A % 2 ^ n.toNat ≠ 0))]) ∧ Rd64 w' v (words (A / 2 ^ n.toNat)) ∧ Fr w.heap.size v ∧ Below w.heap.size w w' := by
  obtain ⟨m, rfl⟩ := Int.eq_ofNat_of_zero_le hn0
  rw [Int.toNat_natCast]
  obtain ⟨i0, hi, hz0, hz1, hz2⟩ := info_parts info_u64
  obtain ⟨q, r, hm, hr⟩ : ∃ q r, m = 64 * q + r ∧ r < 64 := ⟨m / 64, m % 64, by omega, by omega⟩
  have hq1 : ((m : Nat) : Int) / 64 = (q : Nat) := by omega
  have hr1 : ((m : Nat) : Int) % 64 = (r : Nat) := by omega
  have hqb : q ≤ 1048576 := by omega
  have HM := Lib.hid hm
  clear hm
  have sA := small_words A
  have EA := Lib.hid (val_words A)
  generalize words A = a at *
  by_cases hql : q ≤ a.length
  · obtain ⟨p, ca, rfl, hac, ham, hap⟩ := id ha
    have ht := ha.take3 q hql
    have hmin : min ((q : Nat) : Int) ((a.length : Nat) : Int) = (q : Nat) := by omega
    simp only [maxLen] at ham
    go_enter Tryz.func79, Tryz.ntmps79

    go_upto_region 2 with (fail)
    go_cut [7] (fun lv wx => w = wx ∧ lv = .bool (decide (val (a.take q) ≠ 0)))
    case first =>
      go_wp2_with fail
      with_reducible refine (trim_any _ _ _ (sA.take q) ht).mono ?_
      rintro e w' ⟨v1, rfl, ⟨p1, c1, rfl, -, -, -⟩, -, rfl⟩
      by_cases hv0 : val (a.take q) = 0
      · have hz : (words (val (a.take q))).length = 0 := words_nil_iff.2 hv0
        rw [hz]
        have HV0 := Lib.hid hv0; clear hv0 hz
        go_wp2_with fail
        go_meet
        exact ⟨rfl, by rw [HV0.out]; rfl⟩
      · have hz : 0 < (words (val (a.take q))).length := by have := words_nil_iff (n := val (a.take q)); omega
        have HV0 := Lib.hid hv0; clear hv0
        generalize (words (val (a.take q))).length = L at *
        go_wp2_with fail
        go_meet
        exact ⟨rfl, by simp [HV0.out]⟩
    case rest =>
      obtain ⟨rfl, rfl⟩ := hcut
      have HL0 : ∃ l0 : Bool, l0 = decide (val (a.take q) ≠ 0) := ⟨_, rfl⟩
      obtain ⟨l0, hl0⟩ := HL0
      rw [← hl0]
      have HL := Lib.hid hl0; clear hl0
      by_cases hqe : q = a.length
      · have e0 : a.length - q = 0 := by omega
        have E0 := Lib.hid e0; clear e0
        have HQE := Lib.hid hqe; clear hqe
        have bm1 : i0.bytes * (a.length - q) ≤ 281474976710656 := by rw [hz2, E0.out]; omega
        have bm2 : a.length - q ≤ maxLen := by rw [E0.out]; simp [maxLen]
        have hle0 : a.length - q ≤ 0 := by rw [E0.out]; exact Nat.le_refl _
        go_wp2_with (at_make; refine wpList_make_own _ rfl _ _ 63 rfl w.heap.size 27 i0 (.int .u64 0) 1 Tryz.underlying63 hi hz0 hz1 _ _ _ (a.length - q) rfl rfl rfl bm1 bm2 (Nat.le_refl _) ?_; intro w0 hown0 hgrow0)
        all_goals
          refine wp_loop_rounds 1 ?_
          rw [rounds_succ]
          go_wp2_with fail
          have hrd : Rd64 w0 (.slice (some ⟨w.heap.size, 0, none⟩) 0 (a.length - q)) [] := rd_of_owns hown0
          with_reducible refine (trim_any _ _ _ Small.nil hrd).mono ?_
          rintro e w' ⟨v2, rfl, hrd2, hfr2, rfl⟩
          go_wp2_with fail
          go_ret2
          have hA := right_end sA EA.out HM.out HQE.out
          refine ⟨v2, ?_, ?_, hfr2 _ (fr_of_owns hown0), (Below.refl _ _).grown hgrow0 (Nat.le_refl _) (fun k h => by cases h)⟩
          · rw [hA.2, HL.out, HQE.out, List.take_length]; rfl
          · rw [hA.1]; exact hrd2
      · have hqlt : q < a.length := by omega
        obtain ⟨b, off, rfl, hc⟩ := hap (by rintro rfl; simp at hqlt)
        have hcq : ¬ ca = q := by omega
        go_wp2_with (at_make; refine wpList_make_own _ rfl _ _ 63 rfl w.heap.size 27 i0 (.int .u64 0) 1 Tryz.underlying63 hi hz0 hz1 _ _ _ (a.length - q) rfl rfl ?b1 ?b2 ?b3 (Nat.le_refl _) ?_)
        case b1 => omega
        case b2 => rw [hz2]; omega
        case b3 => simp only [maxLen]; omega
        intro w0 hown0 hgrow0
        have H1 : ∃ l1 : Bool, l1 = (l0 || decide (nth a q % 2 ^ r ≠ 0)) := ⟨_, rfl⟩
        obtain ⟨l1, hl1⟩ := H1
        have HL1 := Lib.hid hl1; clear hl1
        go_wp2_with fail
        go_loopw [7, 9, 38] (fun lost out i wr => ∃ (k : Nat) (lk : Bool) (xs : List Nat), k ≤ a.length - q ∧ i = .int .i64 k ∧ lost = .bool lk ∧ lk = (if k = 0 then l0 else l1) ∧ wr.ownsRow w.heap.size 27 1 out k (xs.map U64) ∧ Small xs ∧ val xs + B64 ^ k * (val (a.drop (q + k)) / 2 ^ r) = val (a.drop q) / 2 ^ r ∧ Below w.heap.size w wr) (fun _ _ i _ => (a.length - q) - (intOf i).toNat)
        case atStart => exact ⟨0, l0, [], Nat.zero_le _, rfl, rfl, rfl, hown0, Small.nil, by simp [val], (Below.refl _ _).grown hgrow0 (Nat.le_refl _) (fun k h => by cases h)⟩
        case round =>
          obtain ⟨k, lk, xs, hk, rfl, rfl, hlk, hown, hsx, hv, hnx⟩ := hrel
          have HV := Lib.hid hv; clear hv
          have HLK := Lib.hid hlk; clear hlk
          have hxl : xs.length = k := by have := hown.1; simp at this; omega
          have HXL := Lib.hid hxl; clear hxl
          by_cases hlt : k < a.length - q
          · have cell1 : wr.cell? ⟨b, off + q + k, none⟩ = some (.int .u64 ((nth a (q + k) : Nat) : Int)) := by
              rw [Nat.add_assoc]
              exact (hnx.cell (World.block_lt_of_cell? w _ (hc (q + k) (by omega)))).trans (hc (q + k) (by omega))
            go_upto_if 47 with (fail)
            go_cut [12] (fun v wx => wr = wx ∧ v = .int .u64 ((nth a (q + k + 1) : Nat) : Int))
            case first =>
              by_cases hk1 : k + 1 < a.length - q
              · have cell2 : wr.cell? ⟨b, off + q + (k + 1), none⟩ = some (.int .u64 ((nth a (q + k + 1) : Nat) : Int)) := by
                  rw [Nat.add_assoc, ← Nat.add_assoc q]
                  exact (hnx.cell (World.block_lt_of_cell? w _ (hc (q + k + 1) (by omega)))).trans (hc (q + k + 1) (by omega))
                go_wp2_with fail
                go_meet
                exact ⟨rfl, rfl⟩
              · have e0 : nth a (q + k + 1) = 0 := nth_beyond (by omega)
                have E0 := Lib.hid e0; clear e0
                go_wp2_with fail
                go_meet
                exact ⟨rfl, by rw [E0.out]; rfl⟩
            case rest =>
              obtain ⟨rfl, rfl⟩ := hcut
              go_upto_if 54 with (fail)
              go_cut [7] (fun v wx => wr = wx ∧ v = .bool l1)
              case first =>
                go_wp2_with fail
                · go_meet
                  rename_i h1 h2
                  have hk0 : k = 0 := by simpa using h1
                  exact ⟨rfl, by rw [HL1.out]; have := HLK.out; rw [if_pos hk0] at this; rw [← this, h2]; rfl⟩
                · go_meet
                  rename_i h1 h2
                  have hk0 : k = 0 := by simpa using h1
                  refine ⟨rfl, ?_⟩
                  rw [and_mask (sA.nth _) hr, HL1.out]
                  have := HLK.out; rw [if_pos hk0] at this
                  have h3 : lk = false := by simpa using h2
                  rw [← this, h3, hk0, Nat.add_zero, Bool.false_or]
                  rw [ne_zero_bool]
                · go_meet
                  rename_i h1
                  have hk0 : ¬ k = 0 := by simpa using h1
                  refine ⟨rfl, ?_⟩
                  have := HLK.out; rw [if_neg hk0] at this
                  rw [this]
              case rest =>
                obtain ⟨rfl, rfl⟩ := hcut
                go_wp2_with fail
                have b1 : ((r : Nat) : Int) ≤ 64 := by omega
                have b2 : (0 : Int) ≤ 63 - ((r : Nat) : Int) := by omega
                have b3 : 63 - ((r : Nat) : Int) ≤ 64 := by omega
                have b4 : ((r : Nat) : Int) ≤ 63 := by omega
                have ht1 : ((m : Nat) : Int).tmod 64 = (r : Nat) := by rw [Int.tmod_eq_emod_of_nonneg (by omega)]; exact hr1
                have hw1 : IntKind.i64.wrap (63 - ((r : Nat) : Int)) = 63 - ((r : Nat) : Int) := IntWalk.i64_in _ (by omega)
                have hw2 : (63 - ((r : Nat) : Int)).toNat = 63 - r := by omega
                obtain ⟨s, hs, he, hsum⟩ := right_word (nth a (q + k)) (nth a (q + k + 1)) r (sA.nth _) (sA.nth _) hr
                have HS := Lib.hid hsum; clear hsum
                have Hn := Lib.hid hown
                clear hown
                go_region_law ((refine step_append_own rfl _ _ 63 rfl w.heap.size 27 i0 (.int .u64 0) 1 8 Tryz.underlying63 hi hz0 hz1 hz2 rfl (by decide) u9 k (xs.map U64) (by simp [Act.eval, Act.put]) (Hn.out.drew.alloc _) ⟨wr.heap.size, 0, none⟩ 1 1 [U64 s] (by simp [Act.eval, Act.put]) rfl (cell_one_new _ _ _) (u64_one s) (by simp only [maxLen]; omega) (by omega) (by have := hnx.size; simp; omega) ?_; intro v' w1 hown1 hgrow _))
                go_wp2_with fail
                go_roundw
                case rel =>
                  exact ⟨k + 1, l1, xs ++ [s], by omega, by go_num, rfl, by simp, by simpa using hown1, hsx.snoc hs, right_step hr (by omega) HXL.out HV.out HS.out, (hnx.drew.alloc hnx.size _).grown hgrow (by simp; have := hnx.size; omega) (fun j hj => (Hn.out.lt j hj).1)⟩
                case measure => simp [intOf]; omega
          · have hke : q + k = a.length := by omega
            have hk0 : ¬ k = 0 := by omega
            have HKE := Lib.hid hke; clear hke
            have HK0 := Lib.hid hk0; clear hk0
            have hrd : Rd64 wr _ xs := rd_of_owns hown
            go_wp2_with fail
            with_reducible refine (trim_any _ _ _ hsx hrd).mono ?_
            rintro e w' ⟨v2, rfl, hrd2, hfr2, rfl⟩
            go_wp2_with fail
            go_ret2
            have h1 := HV.out
            have hA := right_parts sA EA.out HM.out hqlt hr
            rw [HKE.out, List.drop_eq_nil_of_le (Nat.le_refl _)] at h1
            have h2 := HLK.out
            rw [if_neg HK0.out] at h2
            refine ⟨v2, ?_, ?_, hfr2 _ (fr_of_owns hown), hnx⟩
            · rw [hA.2, h2, HL1.out, HL.out]; rfl
            · rw [hA.1, ← h1]
              simp only [val, Nat.zero_div, Nat.mul_zero, Nat.add_zero]
              exact hrd2
  · obtain ⟨p, ca, rfl, hac, ham, hap⟩ := id ha
    have ht := ha.take3 a.length (Nat.le_refl _)
    have hmin : min ((q : Nat) : Int) ((a.length : Nat) : Int) = (a.length : Nat) := by omega
    simp only [maxLen] at ham
    go_enter Tryz.func79, Tryz.ntmps79
    go_wp2_with fail
    with_reducible refine (trim_any _ _ _ (sA.take _) ht).mono ?_
    rintro e w' ⟨v1, rfl, ⟨p1, c1, rfl, -, -, -⟩, -, rfl⟩
    rw [List.take_length, EA.out]
    have hlt : A < 2 ^ m := by
      have h := val_lt sA
      rw [EA.out] at h
      have : B64 ^ a.length ≤ 2 ^ m := by
        rw [B64_pow, ← Nat.pow_mul, HM.out]; exact Nat.pow_le_pow_right (by omega) (by omega)
      omega
    have HD := Lib.hid (Nat.div_eq_of_lt hlt)
    have HMM := Lib.hid (Nat.mod_eq_of_lt hlt)
    clear hlt
    by_cases hv0 : A = 0
    · have hz : (words A).length = 0 := words_nil_iff.2 hv0
      rw [hz]
      have HV0 := Lib.hid hv0; clear hv0 hz
      go_wp2_with fail
      all_goals go_ret2
      all_goals exact ⟨.slice none 0 0, by rw [HMM.out, HV0.out]; rfl, by rw [HD.out, words_zero]; exact Rd64.nil _, Fr.none _ _ _, Below.refl _ _⟩
    · have hz : 0 < (words A).length := by have := words_nil_iff (n := A); omega
      have HV0 := Lib.hid hv0; clear hv0
      generalize (words A).length = L at *
      go_wp2_with fail
      all_goals go_ret2
      all_goals exact ⟨.slice none 0 0, by rw [HMM.out]; simp [HV0.out], by rw [HD.out, words_zero]; exact Rd64.nil _, Fr.none _ _ _, Below.refl _ _⟩

end Go.Proofs.YteophaobcebppaaGreatDoor.dg
