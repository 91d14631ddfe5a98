/- The walk of digits.Print. Conditions: the table of powers of ten reads as it is laid. -/
import Derived.Test.YteophaobcebppaaGreatDoorSho
import Derived.Test.YteophaobcebppaaGreatDoorParse
set_option linter.unusedSimpArgs false
namespace Go.Proofs.YteophaobcebppaaGreatDoor.dg
open Go.RowKit
set_option linter.unusedVariables false

/-- what Print makes of a number's shortest digits and their point. -/
def fmtL (d : List UInt8) (p : Int) : List UInt8 :=
  if (d.length : Int) ≤ p ∧ p ≤ 21 then d ++ List.replicate (p - d.length).toNat 48
  else if 1 ≤ p ∧ p ≤ 21 then d.take p.toNat ++ [46] ++ d.drop p.toNat
  else if -5 ≤ p ∧ p ≤ 0 then [48, 46] ++ List.replicate (-p).toNat 48 ++ d
  else d.take 1 ++ (if 1 < d.length then 46 :: d.drop 1 else []) ++ (if 1 ≤ p then [101, 43] ++ Lib.decDigits (p - 1).toNat else [101, 45] ++ Lib.decDigits (1 - p).toNat)

/-- what is printed of a number without its sign. -/
def IsBody (r : Nat) (s : List UInt8) : Prop :=
  (r = INF ∧ s = [73, 110, 102, 105, 110, 105, 116, 121]) ∨ (r = 0 ∧ s = [48]) ∨ (0 < r ∧ r < INF ∧ ∃ d p, IsShort r d p ∧ s = fmtL d p)
/-- what is printed of a number. -/
def IsPrint (x : Nat) (s : List UInt8) : Prop :=
  (isNaN x = true ∧ s = [78, 97, 78]) ∨ (isNaN x = false ∧ ∃ b, IsBody (x % 2 ^ 63) b ∧ s = if 2 ^ 63 ≤ x then 45 :: b else b)

/-- what a number's shortest digits are like. -/
structure ShortFacts (r : Nat) (d : List UInt8) (p : Int) : Prop where
  ne : d ≠ []
  len : d.length ≤ 18
  low : -400 ≤ p
  high : p ≤ 400
  all : AllD d
  head : ∀ c r, d = c :: r → c ≠ 48
  last : ∀ c r, d = r ++ [c] → c ≠ 48
  read : readP d p = r

theorem pick_some {r n q : Nat} {p : Int} (h : pick r p n = some q) : decv q (p - n) = r ∧ (q = numS r p n / denS p n ∨ q = numS r p n / denS p n + 1) := by
  unfold pick at h
  simp only at h
  obtain ⟨a, ha⟩ : ∃ a, a = numS r p n / denS p n := ⟨_, rfl⟩
  rw [← ha] at h ⊢
  clear ha
  split at h
  · cases h
  · rename_i h1
    split at h
    · rename_i h2
      cases h
      refine ⟨?_, Or.inr rfl⟩
      by_cases h3 : decv (a + 1) (p - n) = r
      · exact h3
      · exfalso
        rw [decide_eq_false h3] at h1 h2
        rcases h2 with h2 | ⟨h2, -⟩
        · exact h1 ⟨h2, rfl⟩
        · cases h2
    · rename_i h2
      cases h
      refine ⟨?_, Or.inl rfl⟩
      by_cases h3 : decv q (p - n) = r
      · exact h3
      · exact absurd (Or.inl (decide_eq_false h3)) h2

theorem short_facts {r : Nat} {d : List UInt8} {p : Int} (h0 : 0 < r) (hI : r < INF) (h : IsShort r d p) : ShortFacts r d p := by
  obtain ⟨pl, n, q, hp, hn1, hn17, hno, hpk, rfl, rfl⟩ := h
  obtain ⟨hr0, hr1⟩ := place_range h0 hI hp
  obtain ⟨hq1, hq2⟩ := quo_range (n := n) h0 hp hn1
  obtain ⟨hread, hor⟩ := pick_some hpk
  have h17 : 10 ^ n ≤ 10 ^ 17 := Nat.pow_le_pow_right (by omega) hn17
  have hqq : 1 ≤ q ∧ q < 10 ^ 18 := by rcases hor with h | h <;> omega
  obtain ⟨z, hz⟩ := trim_dec (d := q) (by omega)
  have hl := nDigits_le (k := 18) (by omega) hqq.2
  rw [← Lib.decDigits_length] at hl
  have hl1 := Lib.nDigits_pos q
  rw [← Lib.decDigits_length] at hl1
  have hsl := hz.len
  have hlI : (((Lib.decDigits q).length : Nat) : Int) ≤ 18 := by omega
  have hlI1 : 1 ≤ (((Lib.decDigits q).length : Nat) : Int) := by omega
  refine ⟨hz.ne, by omega, by omega, by omega, hz.all, hz.head, hz.last, ?_⟩
  rw [readP_trim hz (pl - n) (by omega) (by omega) (by omega)]
  exact hread

theorem ba_eq {a b : ByteArray} (h : a.data.toList = b.data.toList) : a = b := by
  cases a; cases b
  simp only [ByteArray.mk.injEq]
  exact Array.ext' h
theorem ba_list_of {a : ByteArray} {l : List UInt8} (h : a.data.toList = l) : a = ⟨l.toArray⟩ := ba_eq (by rw [h])

theorem str_ret {b : ByteArray} {s : List UInt8} (h : b.data.toList = s) : Ending.returned (.string b) = .returned (.string ⟨s.toArray⟩) := by rw [ba_list_of h]

theorem repeat_one (c : UInt8) (n : Nat) : Lib.repeatL [c] n = List.replicate n c := by
  induction n with
  | zero => rfl
  | succ n ih => rw [Lib.repeatL, ih]; rfl

theorem itoa_any (n : Int) (w : World) (h0 : 0 ≤ n) (h1 : n ≤ 1000000) (ht : Tab w) :
    Calls Tryz.prog 31 #[.int .i64 n] w fun e w' => e = .returned (.string ⟨(Lib.decDigits n.toNat).toArray⟩) ∧ Below w.heap.size w w' := by
  refine (Tryz.strconv_Itoa n (by omega) (by omega) w ht).mono ?_
  rintro e w' ⟨rfl, k, os, rfl⟩
  obtain ⟨u, rfl⟩ := Int.eq_ofNat_of_zero_le h0
  rw [Lib.itoa_nonneg, Int.toNat_natCast]
  exact ⟨rfl, Lib.below_grow w.heap.size w (Nat.le_refl _) k os⟩

theorem dec_short (n : Int) (h : n ≤ 1000000) : ∃ L, L = Lib.decDigits n.toNat ∧ ((L.length : Nat) : Int) ≤ 10 := by
  refine ⟨_, rfl, ?_⟩
  have := nDigits_le (u := n.toNat) (k := 10) (by omega) (by omega)
  rw [← Lib.decDigits_length] at this
  omega

theorem rep_any (n : Int) (w : World) (h0 : 0 ≤ n) (h1 : n ≤ 1000000) :
    Calls Tryz.prog 30 #[.string ⟨#[48]⟩, .int .i64 n] w fun e w' => e = .returned (.string ⟨(List.replicate n.toNat 48).toArray⟩) ∧ Below w.heap.size w w' := by
  obtain ⟨u, rfl⟩ := Int.eq_ofNat_of_zero_le h0
  have := Tryz.strings_Repeat ⟨#[48]⟩ u w (by omega) (by rw [show (⟨#[48]⟩ : ByteArray).size = 1 from rfl]; omega)
  rw [show (⟨#[48]⟩ : ByteArray).data.toList = [48] from rfl, repeat_one] at this
  rw [Int.toNat_natCast]
  exact this

theorem body_len {r : Nat} {s : List UInt8} (h : IsBody r s) : s.length ≤ 500 := by
  rcases h with ⟨-, rfl⟩ | ⟨-, rfl⟩ | ⟨h0, hI, d, p, hsh, rfl⟩
  · decide
  · decide
  · have hf := short_facts h0 hI hsh
    have hl := hf.len; have h1 := hf.low; have h2 := hf.high
    obtain ⟨L1, e1, l1⟩ := dec_short (p - 1) (by omega)
    obtain ⟨L2, e2, l2⟩ := dec_short (1 - p) (by omega)
    unfold fmtL
    rw [← e1, ← e2]
    repeat' split
    all_goals simp
    all_goals omega

/-- the world behind 'c := bits.Split(x)': its cells. -/
theorem parts_cells {w w1 : World} {b : Bool} {c m i : Int} (hb : Below w.heap.size w w1) :
    let w2 := w1.alloc (.cells #[.bool b, .int .i64 c, .int .u64 m, .int .i64 i] 56)
    w2.cell? ⟨w1.heap.size, 0, none⟩ = some (.bool b) ∧ w2.cell? ⟨w1.heap.size, 1, none⟩ = some (.int .i64 c) ∧ Below w.heap.size w w2 := by
  intro w2
  have hrow : w2.heap[w1.heap.size]? = some (.cells #[.bool b, .int .i64 c, .int .u64 m, .int .i64 i] 56 (0, 0)) := heap_alloc_new w1 _
  refine ⟨?_, ?_, hb.alloc hb.size _⟩
  · have := cell_of_row w2 w1.heap.size 0 _ _ _ hrow
    simpa using this
  · have := cell_of_row w2 w1.heap.size 1 _ _ _ hrow
    simpa using this

set_option maxHeartbeats 1600000 in
set_option maxRecDepth 100000 in
theorem print_pos (x : Nat) (w : World) (hx : x < 2 ^ 63) (hn : isNaN x = false) (htab : Tab w) :
    Calls Tryz.prog 12 #[.float .f64 x] w fun e w' => ∃ s : List UInt8, e = .returned (.string ⟨s.toArray⟩) ∧ IsBody x s ∧ Below w.heap.size w w' := by
  have hxB : x < B64 := by rw [B64_pow]; omega
  have hxm : x % 2 ^ 63 = x := Nat.mod_eq_of_lt hx
  have hxI : x ≤ INF := by unfold isNaN at hn; have := of_decide_eq_false hn; omega
  have hsp := split_any x w hxB
  have hng : ngs x = false := by unfold ngs; rw [decide_eq_false (by omega : ¬ 2 ^ 63 ≤ x), Bool.and_false]
  rw [hng] at hsp
  obtain ⟨c, hcv⟩ : ∃ c, c = cls x := ⟨_, rfl⟩
  rw [← hcv] at hsp
  have HS := Lib.hid hsp
  have HTAB := Lib.hid htab
  have HC := Lib.hid hcv
  clear hsp htab hng hcv
  go_enter Tryz.func12, Tryz.ntmps12
  go_wp2_with fail
  refine HS.out.mono ?_
  rintro e w1 ⟨m, i, rfl, hb⟩
  obtain ⟨c0, c1, hb2⟩ := parts_cells (b := false) (c := c) (m := m) (i := i) hb
  obtain ⟨w2, hw2⟩ : ∃ w2, w2 = w1.alloc (.cells #[.bool false, .int .i64 c, .int .u64 m, .int .i64 i] 56) := ⟨_, rfl⟩
  rw [← hw2] at c0 c1 hb2
  have HW2 := Lib.hid hw2
  have HB2 := Lib.hid hb2
  clear hw2 hb hb2
  go_upto_region 2 with (fail)
  rw [← HW2.out]
  by_cases h1 : x = INF
  · have hc3 : c = 3 := by rw [HC.out]; unfold cls; rw [hxm, if_neg (by omega), if_pos h1]
    clear HC
    subst hc3
    go_wp2_with fail
    go_ret
    exact ⟨_, rfl, Or.inl ⟨h1, rfl⟩, HB2.out⟩
  · by_cases h2 : x = 0
    · have hc3 : c = 0 := by rw [HC.out]; unfold cls; rw [hxm, if_neg (by omega), if_neg h1, if_pos h2]
      clear HC
      subst hc3
      go_wp2_with fail
      go_ret
      exact ⟨_, rfl, Or.inr (Or.inl ⟨h2, rfl⟩), HB2.out⟩
    · have hc12 := cls_fin (x := x) (by omega) (by omega)
      rw [← HC.out] at hc12
      have k0 : ¬ c = 0 := by omega
      have k3 : ¬ c = 3 := by omega
      have k4 : ¬ c = 4 := by omega
      clear hc12
      go_wp2_with fail
      refine (short_some x x _ hxB hxm.symm (by omega) (by omega) (HTAB.out.below HB2.out)).mono ?_
      rintro e w3 ⟨d, p, rfl, hsh, hb3⟩
      have hf := short_facts (by omega) (by omega) hsh
      have HSH := Lib.hid hsh
      have HF := Lib.hid hf
      have HB3 := Lib.hid (HB2.out.trans (hb3.mono HB2.out.size))
      have hp0 := hf.low; have hp1 := hf.high; have hl := hf.len
      have hl0 : 0 < d.length := by
        rcases Nat.eq_zero_or_pos d.length with h | h
        · exact absurd (List.length_eq_zero_iff.1 h) hf.ne
        · exact h
      clear hsh hf hb3
      have hbody : IsBody x (fmtL d p) := Or.inr (Or.inr ⟨by omega, by omega, d, p, HSH.out, rfl⟩)
      have HBODY := Lib.hid hbody
      clear hbody
      have hlI : (0 : Int) < d.length := by omega
      have hl18 : (d.length : Int) ≤ 18 := by omega
      clear h1 h2 hxI hn hx
      rcases (by omega : 21 < p ∨ (1 ≤ p ∧ p ≤ 21 ∧ (d.length : Int) ≤ p) ∨ (1 ≤ p ∧ p ≤ 21 ∧ ¬ (d.length : Int) ≤ p) ∨ (-5 ≤ p ∧ p ≤ 0) ∨ p < -5) with a1 | ⟨a1, a2, a3⟩ | ⟨a1, a2, a3⟩ | ⟨a1, a2⟩ | a1
      · have hfm : fmtL d p = d.take 1 ++ (if 1 < d.length then 46 :: d.drop 1 else []) ++ ([101, 43] ++ Lib.decDigits (p - 1).toNat) := by
          unfold fmtL; rw [if_neg (by omega), if_neg (by omega), if_neg (by omega), if_pos (show 1 ≤ p by omega)]
        have HFM := Lib.hid hfm
        have b1 : (d.length : Int) ≤ p := by omega
        have b2 : ¬ p ≤ 21 := by omega
        have b3 : 1 ≤ p := by omega
        have b4 : ¬ p ≤ 0 := by omega
        clear hfm
        obtain ⟨L, hL, hL10⟩ := dec_short (p - 1) (by omega)
        have hit := itoa_any (p - 1) _ (by omega) (by omega) (HTAB.out.below HB3.out)
        rw [← hL] at hit HFM
        have HIT := Lib.hid hit
        clear hL hit
        by_cases hd1 : 1 < d.length
        · have hd1I : (1 : Int) < d.length := by omega
          go_wp2_with fail
          refine HIT.out.mono ?_
          rintro e w4 ⟨rfl, hb4⟩
          go_wp2_with fail
          go_ret
          exact ⟨fmtL d p, str_ret (by rw [HFM.out, if_pos hd1]; simp [List.extract_eq_take_drop]; exact List.take_of_length_le (by simp)), HBODY.out, HB3.out.trans (hb4.mono HB3.out.size)⟩
        · have hd1I : ¬ (1 : Int) < d.length := by omega
          go_wp2_with fail
          refine HIT.out.mono ?_
          rintro e w4 ⟨rfl, hb4⟩
          go_wp2_with fail
          go_ret
          exact ⟨fmtL d p, str_ret (by rw [HFM.out, if_neg hd1]; simp [List.extract_eq_take_drop]), HBODY.out, HB3.out.trans (hb4.mono HB3.out.size)⟩
      · have hfm : fmtL d p = d ++ List.replicate (p - d.length).toNat 48 := by unfold fmtL; rw [if_pos ⟨a3, a2⟩]
        have HFM := Lib.hid hfm
        clear hfm
        go_wp2_with fail
        refine (rep_any (p - d.length) _ (by omega) (by omega)).mono ?_
        rintro e w4 ⟨rfl, hb4⟩
        go_wp2_with fail
        go_ret
        exact ⟨fmtL d p, str_ret (by rw [HFM.out]; simp), HBODY.out, HB3.out.trans (hb4.mono HB3.out.size)⟩
      · have hfm : fmtL d p = d.take p.toNat ++ [46] ++ d.drop p.toNat := by unfold fmtL; rw [if_neg (by omega), if_pos ⟨a1, a2⟩]
        have HFM := Lib.hid hfm
        clear hfm
        have a4 : p < (d.length : Int) := by omega
        have a5 : p ≤ (d.length : Int) := by omega
        have a6 : 0 ≤ p := by omega
        go_wp2_with fail
        go_quiet (fail)
        go_wp2_with fail
        go_ret
        exact ⟨fmtL d p, str_ret (by rw [HFM.out]; simp [List.extract_eq_take_drop]; exact List.take_of_length_le (by simp)), HBODY.out, below_drewN HB3.out _⟩
      · have hfm : fmtL d p = [48, 46] ++ List.replicate (-p).toNat 48 ++ d := by unfold fmtL; rw [if_neg (by omega), if_neg (by omega), if_pos ⟨a1, a2⟩]
        have HFM := Lib.hid hfm
        have b1 : ¬ (d.length : Int) ≤ p := by omega
        have b2 : ¬ 1 ≤ p := by omega
        clear hfm
        go_wp2_with fail
        refine (rep_any (-p) _ (by omega) (by omega)).mono ?_
        rintro e w4 ⟨rfl, hb4⟩
        go_wp2_with fail
        go_ret
        exact ⟨fmtL d p, str_ret (by rw [HFM.out]; simp), HBODY.out, HB3.out.trans (hb4.mono HB3.out.size)⟩
      · have hfm : fmtL d p = d.take 1 ++ (if 1 < d.length then 46 :: d.drop 1 else []) ++ ([101, 45] ++ Lib.decDigits (1 - p).toNat) := by
          unfold fmtL; rw [if_neg (by omega), if_neg (by omega), if_neg (by omega), if_neg (show ¬ 1 ≤ p by omega)]
        have HFM := Lib.hid hfm
        have b1 : ¬ (d.length : Int) ≤ p := by omega
        have b3 : ¬ 1 ≤ p := by omega
        have b4 : ¬ -5 ≤ p := by omega
        clear hfm
        obtain ⟨L, hL, hL10⟩ := dec_short (1 - p) (by omega)
        have hit := itoa_any (1 - p) _ (by omega) (by omega) (HTAB.out.below HB3.out)
        rw [← hL] at hit HFM
        have HIT := Lib.hid hit
        clear hL hit
        by_cases hd1 : 1 < d.length
        · have hd1I : (1 : Int) < d.length := by omega
          go_wp2_with fail
          refine HIT.out.mono ?_
          rintro e w4 ⟨rfl, hb4⟩
          go_wp2_with fail
          go_ret
          exact ⟨fmtL d p, str_ret (by rw [HFM.out, if_pos hd1]; simp [List.extract_eq_take_drop]; exact List.take_of_length_le (by simp)), HBODY.out, HB3.out.trans (hb4.mono HB3.out.size)⟩
        · have hd1I : ¬ (1 : Int) < d.length := by omega
          go_wp2_with fail
          refine HIT.out.mono ?_
          rintro e w4 ⟨rfl, hb4⟩
          go_wp2_with fail
          go_ret
          exact ⟨fmtL d p, str_ret (by rw [HFM.out, if_neg hd1]; simp [List.extract_eq_take_drop]), HBODY.out, HB3.out.trans (hb4.mono HB3.out.size)⟩

set_option maxHeartbeats 1600000 in
set_option maxRecDepth 100000 in
theorem print_any (x : Nat) (w : World) (hx : x < B64) (htab : Tab w) :
    Calls Tryz.prog 12 #[.float .f64 x] w fun e w' => ∃ s : List UInt8, e = .returned (.string ⟨s.toArray⟩) ∧ IsPrint x s ∧ Below w.heap.size w w' := by
  by_cases hn : isNaN x = true
  · have hsp := split_any x w hx
    have hng : ngs x = false := by unfold ngs; rw [hn]; rfl
    have hcl : cls x = 4 := by unfold cls; rw [if_pos (of_decide_eq_true hn)]
    rw [hng, hcl] at hsp
    have HS := Lib.hid hsp
    have HN := Lib.hid hn
    clear hsp hng hcl htab hn
    go_enter Tryz.func12, Tryz.ntmps12
    go_wp2_with fail
    refine HS.out.mono ?_
    rintro e w1 ⟨m, i, rfl, hb⟩
    obtain ⟨c0, c1, hb2⟩ := parts_cells (b := false) (c := 4) (m := m) (i := i) hb
    obtain ⟨w2, hw2⟩ : ∃ w2, w2 = w1.alloc (.cells #[.bool false, .int .i64 4, .int .u64 m, .int .i64 i] 56) := ⟨_, rfl⟩
    rw [← hw2] at c0 c1 hb2
    have HW2 := Lib.hid hw2
    have HB2 := Lib.hid hb2
    clear hw2 hb hb2
    go_upto_region 2 with (fail)
    rw [← HW2.out]
    go_wp2_with fail
    go_ret
    exact ⟨_, rfl, Or.inl ⟨HN.out, rfl⟩, HB2.out⟩
  · have hn := eq_false_of_ne_true hn
    by_cases hs : 2 ^ 63 ≤ x
    · have hsp := split_any x w hx
      have hng : ngs x = true := by unfold ngs; rw [hn, decide_eq_true hs]; rfl
      have habs := abs_any x
      obtain ⟨y, hy⟩ : ∃ y, y = x % 2 ^ 63 := ⟨_, rfl⟩
      rw [← hy] at habs
      have hy63 : y < 2 ^ 63 := by rw [hy]; exact Nat.mod_lt _ (by decide)
      have hyn : isNaN y = false := by unfold isNaN at hn ⊢; rw [Nat.mod_eq_of_lt hy63, hy]; exact hn
      have hc4 : ¬ cls x = 4 := by
        unfold cls; unfold isNaN at hn
        rw [if_neg (of_decide_eq_false hn)]
        repeat' split
        all_goals omega
      rw [hng] at hsp
      obtain ⟨c, hcv⟩ : ∃ c, c = cls x := ⟨_, rfl⟩
      rw [← hcv] at hsp hc4
      have HS := Lib.hid hsp
      have HN := Lib.hid hn
      have HA := Lib.hid habs
      have HTAB := Lib.hid htab
      have HY := Lib.hid hy
      have HSS := Lib.hid hs
      clear hsp hng hn habs hcv htab hy hs
      go_enter Tryz.func12, Tryz.ntmps12
      go_wp2_with fail
      refine HS.out.mono ?_
      rintro e w1 ⟨m, i, rfl, hb⟩
      obtain ⟨c0, c1, hb2⟩ := parts_cells (b := true) (c := c) (m := m) (i := i) hb
      obtain ⟨w2, hw2⟩ : ∃ w2, w2 = w1.alloc (.cells #[.bool true, .int .i64 c, .int .u64 m, .int .i64 i] 56) := ⟨_, rfl⟩
      rw [← hw2] at c0 c1 hb2
      have HW2 := Lib.hid hw2
      have HB2 := Lib.hid hb2
      clear hw2 hb hb2
      go_upto_region 2 with (fail)
      rw [← HW2.out]
      go_wp2_with fail
      refine (HA.out _ hx).mono ?_
      rintro e w' ⟨rfl, rfl⟩
      go_wp2_with fail
      refine (print_pos y _ hy63 hyn (HTAB.out.below HB2.out)).mono ?_
      rintro e w3 ⟨s, rfl, hbody, hb3⟩
      have hsl : ((s.length : Nat) : Int) ≤ 1000 := by have := body_len hbody; omega
      have HBODY := Lib.hid hbody
      have HB3 := Lib.hid (HB2.out.trans (hb3.mono HB2.out.size))
      clear hbody hb3
      go_wp2_with fail
      go_ret
      exact ⟨45 :: s, str_ret (by simp), Or.inr ⟨HN.out, s, by rw [← HY.out]; exact HBODY.out, by rw [if_pos HSS.out]⟩, HB3.out⟩
    · refine (print_pos x w (by omega) hn htab).mono ?_
      rintro e w3 ⟨s, rfl, hbody, hb3⟩
      exact ⟨s, rfl, Or.inr ⟨hn, s, by rw [Nat.mod_eq_of_lt (by omega)]; exact hbody, by rw [if_neg hs]⟩, hb3⟩

end Go.Proofs.YteophaobcebppaaGreatDoor.dg
