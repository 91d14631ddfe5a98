/- DigitsOrder: the walk. Conditions: the texts can be held. -/
import Derived.Test.YteophaobcebppaaGreatDoorStands
import Derived.Test.YteophaobcebppaaGreatDoorAwake
import Derived.Test.YteophaobcebppaaGreatDoorRefJ
set_option linter.unusedSimpArgs false
set_option linter.unusedVariables false
namespace Go.Proofs.YteophaobcebppaaGreatDoor.dg
open Go.RowKit

theorem bits_xor_nat (a b : Nat) (ha : a < B64) (hb : b < B64) : bits .xor .u64 (a : Int) (b : Int) = ((a ^^^ b : Nat) : Int) := by
  rw [B64_def] at ha hb
  have hx : a ^^^ b < 2 ^ 64 := Nat.xor_lt_two_pow (by omega) (by omega)
  have h1 : (BitVec.ofInt 64 (a : Int)).toNat = a := by
    rw [BitVec.ofInt_natCast, BitVec.toNat_ofNat]; exact Nat.mod_eq_of_lt (by omega)
  have h2 : (BitVec.ofInt 64 (b : Int)).toNat = b := by
    rw [BitVec.ofInt_natCast, BitVec.toNat_ofNat]; exact Nat.mod_eq_of_lt (by omega)
  show IntKind.u64.wrap ((BitVec.ofInt 64 (a : Int) ^^^ BitVec.ofInt 64 (b : Int)).toNat : Int) = _
  rw [BitVec.toNat_xor, h1, h2, IntKind.wrap_u64]
  omega

theorem xor_top {y : Nat} (h : y < 2 ^ 63) : bits .xor .u64 (y : Int) 9223372036854775808 = ((y + 2 ^ 63 : Nat) : Int) := by
  have := bits_xor_nat y 9223372036854775808 (by rw [B64_def]; omega) (by rw [B64_def]; omega)
  have e : y ^^^ 9223372036854775808 = y + 2 ^ 63 := by
    have h2 : y + 2 ^ 63 = 2 ^ 63 * 1 ||| y := by rw [← Nat.two_pow_add_eq_or_of_lt h]; omega
    rw [h2]
    refine Nat.eq_of_testBit_eq fun i => ?_
    rw [Nat.testBit_xor, Nat.testBit_or, Nat.mul_one, show (9223372036854775808 : Nat) = 2 ^ 63 from rfl, Nat.testBit_two_pow]
    by_cases hi : 63 = i
    · subst hi
      have : y.testBit 63 = false := Nat.testBit_lt_two_pow h
      rw [this]; rfl
    · rw [decide_eq_false hi]; cases y.testBit i <;> rfl
  rw [e] at this
  exact this

theorem below_keep' {w w' : World} {a : Addr} {v : Value} (hb : Below w.heap.size w w') (h : w.cell? a = some v) : w'.cell? a = some v := (hb.cell (World.block_lt_of_cell? w _ h)).trans h

theorem padTo_all' {l : List UInt8} (h : AllD l) (n : Nat) : AllD (l ++ List.replicate n 48) := by
  refine AllD.append h fun c hc => ?_
  rw [List.mem_replicate] at hc
  rw [hc.2]; decide

theorem stop_nil : Stops [] := fun c r h => by cases h

/-- what Parse tells of digits and 'e1'. -/
theorem parse_e1 {l : List UInt8} (h : AllD l) (hne : l ≠ []) : parseP (l ++ [101, 49]) = (readP l (l.length + 1), l.length + 2, 0) := by
  have h1 := parseP_text (neg := false) (sg := []) (W := l) (DP := []) (F := []) (EP := [101, 49]) (R := []) (e := 1) rfl h hne (Or.inl ⟨rfl, rfl⟩) (Or.inr ⟨[49], by simp, by intro c hc; rw [List.mem_singleton] at hc; rw [hc]; decide, Or.inl ⟨rfl, by decide⟩⟩) stop_nil
  simpa using h1
theorem parse_me1 {l : List UInt8} (h : AllD l) (hne : l ≠ []) : parseP ([45] ++ l ++ [101, 49]) = (readP l (l.length + 1) % 2 ^ 63 + 2 ^ 63, l.length + 3, 0) := by
  have h1 := parseP_text (neg := true) (sg := [45]) (W := l) (DP := []) (F := []) (EP := [101, 49]) (R := []) (e := 1) rfl h hne (Or.inl ⟨rfl, rfl⟩) (Or.inr ⟨[49], by simp, by intro c hc; rw [List.mem_singleton] at hc; rw [hc]; decide, Or.inl ⟨rfl, by decide⟩⟩) stop_nil
  have e : 1 + l.length + 0 + 2 = l.length + 3 := by omega
  simp only [if_true, List.append_nil, List.nil_append, List.length_cons, List.length_nil] at h1
  have e2 : (0 + 1 + l.length + 0 + (0 + 1 + 1)) = l.length + 3 := by omega
  rw [e2] at h1
  rw [List.append_assoc]
  exact h1

theorem nearP_ok {l : List UInt8} (h : AllD l) (hne : l ≠ []) (p : Int) : nearP l p = (readP l p, 0) := by
  unfold nearP; rw [if_pos ⟨hne, h⟩]
theorem nearP_err (l : List UInt8) (p : Int) : ((nearP l p).2 : Int) = if decide (l ≠ [] ∧ AllD l) = true then 0 else 1 := by
  unfold nearP
  by_cases h : l ≠ [] ∧ AllD l
  · rw [if_pos h, decide_eq_true h]; rfl
  · rw [if_neg h, decide_eq_false h]; rfl

set_option maxHeartbeats 6400000 in
set_option maxRecDepth 100000 in
theorem order_any (A B : ByteArray) (p z : Int) (w : World) (hA : A.size ≤ 140737488351232) (hB : B.size ≤ 140737488351232) (hp0 : -9223372036854775808 ≤ p) (hp1 : p ≤ 9223372036854775807) (hz0 : -9223372036854775808 ≤ z) (hz1 : z ≤ 9223372036854775807) (htab : Tab w) :
    Calls Tryz.prog 8 #[.agg #[.string A, .string B, .int .i64 p, .int .i64 z]] w fun e w' => e = .returned (.bool true) ∧ Below w.heap.size w w' := by
  have hdA := fun w => rdigits_any A w (by omega)
  have hdB := fun w => rdigits_any B w (by omega)
  have hnA := fun w => nearest_any A p w (by omega) hp0 hp1
  have hnB := fun w => nearest_any B p w (by omega) hp0 hp1
  obtain ⟨la, hla⟩ : ∃ la, la = A.data.toList := ⟨_, rfl⟩
  obtain ⟨lb, hlb⟩ : ∃ lb, lb = B.data.toList := ⟨_, rfl⟩
  rw [← hla] at hdA hnA
  rw [← hlb] at hdB hnB
  obtain ⟨oa, hoa⟩ : ∃ oa, oa = decide (la ≠ [] ∧ AllD la) := ⟨_, rfl⟩
  obtain ⟨ob, hob⟩ : ∃ ob, ob = decide (lb ≠ [] ∧ AllD lb) := ⟨_, rfl⟩
  have hea := nearP_err la p
  have heb := nearP_err lb p
  rw [← hoa] at hdA hea
  rw [← hob] at hdB heb
  obtain ⟨xa, hxa⟩ : ∃ xa, xa = (nearP la p).1 := ⟨_, rfl⟩
  obtain ⟨xb, hxb⟩ : ∃ xb, xb = (nearP lb p).1 := ⟨_, rfl⟩
  obtain ⟨ea, hea2⟩ : ∃ ea, ea = (nearP la p).2 := ⟨_, rfl⟩
  obtain ⟨eb, heb2⟩ : ∃ eb, eb = (nearP lb p).2 := ⟨_, rfl⟩
  rw [← hxa, ← hea2] at hnA
  rw [← hxb, ← heb2] at hnB
  rw [← hea2] at hea
  rw [← heb2] at heb
  have HXA := Lib.hid hxa; have HXB := Lib.hid hxb
  clear hxa hxb hea2 heb2
  have HDA := Lib.hid hdA; have HDB := Lib.hid hdB; have HNA := Lib.hid hnA; have HNB := Lib.hid hnB
  have HOA := Lib.hid hoa; have HOB := Lib.hid hob; have HLA := Lib.hid hla; have HLB := Lib.hid hlb; have HEA := Lib.hid hea; have HEB := Lib.hid heb
  have HTAB := Lib.hid htab
  clear hdA hdB hnA hnB hoa hob hla hlb hea heb htab
  go_enter Tryz.func8, Tryz.ntmps8
  obtain ⟨wb, hwb⟩ : ∃ wb, wb = w.alloc (.cells #[.string A, .string B, .int .i64 p, .int .i64 z] 47) := ⟨_, rfl⟩
  have hb0 : Below w.heap.size w wb := by rw [hwb]; exact (Below.refl _ _).alloc (Nat.le_refl _) _
  have hrow : wb.heap[w.heap.size]? = some (.cells #[.string A, .string B, .int .i64 p, .int .i64 z] 47 (0, 0)) := by rw [hwb]; exact heap_alloc_new w _
  have hc0 := cell_of_row wb w.heap.size 0 _ _ _ hrow
  have hc1 := cell_of_row wb w.heap.size 1 _ _ _ hrow
  have hc2 := cell_of_row wb w.heap.size 2 _ _ _ hrow
  have hc3 := cell_of_row wb w.heap.size 3 _ _ _ hrow
  simp only [List.getElem?_toArray, List.getElem?_cons_zero, List.getElem?_cons_succ] at hc0 hc1 hc2 hc3
  have HB0 := Lib.hid hb0
  have HWB := Lib.hid hwb
  clear hwb hb0 hrow
  go_upto_region 1 with (fail)
  rw [← HWB.out]
  go_wp2_with fail
  refine (awake_any _ (HTAB.out.below HB0.out)).mono ?_
  rintro e w1 ⟨rfl, hb1⟩
  have d0 := below_keep' hb1 hc0
  have d1 := below_keep' hb1 hc1
  have d2 := below_keep' hb1 hc2
  have d3 := below_keep' hb1 hc3
  have HB1 := Lib.hid (HB0.out.trans (hb1.mono HB0.out.size))
  clear hc0 hc1 hc2 hc3 hb1
  go_wp2_with fail
  refine (HDA.out _).mono ?_
  rintro e w' ⟨rfl, rfl⟩
  go_wp2_with fail
  refine (HDB.out _).mono ?_
  rintro e w' ⟨rfl, rfl⟩
  cases oa
  · skip
    have hea : ((ea : Nat) : Int) = 1 := by simpa using HEA.out
    cases ob
    all_goals
      have heb := HEB.out
      simp only [Bool.false_eq_true, if_false, if_true] at heb
      clear HEA HEB
      go_wp2_with fail
      refine (HNA.out _).mono ?_
      rintro e w2 ⟨rfl, hb2⟩
      have e1 := below_keep' hb2 d1
      have e2 := below_keep' hb2 d2
      have HB2 := Lib.hid (HB1.out.trans (hb2.mono HB1.out.size))
      clear hb2 d0 d1 d2 d3
      go_wp2_with fail
      refine (HNB.out _).mono ?_
      rintro e w3 ⟨rfl, hb3⟩
      have HB3 := Lib.hid (HB2.out.trans (hb3.mono HB2.out.size))
      clear hb3
      go_wp2_with fail
      go_ret
      exact ⟨rfl, HB3.out⟩
  · cases ob
    · skip
      have hea := HEA.out
      have heb := HEB.out
      simp only [Bool.false_eq_true, if_false, if_true] at hea heb
      clear HEA HEB
      go_wp2_with fail
      refine (HNA.out _).mono ?_
      rintro e w2 ⟨rfl, hb2⟩
      have e1 := below_keep' hb2 d1
      have e2 := below_keep' hb2 d2
      have HB2 := Lib.hid (HB1.out.trans (hb2.mono HB1.out.size))
      clear hb2 d0 d1 d2 d3
      go_wp2_with fail
      refine (HNB.out _).mono ?_
      rintro e w3 ⟨rfl, hb3⟩
      have HB3 := Lib.hid (HB2.out.trans (hb3.mono HB2.out.size))
      clear hb3
      go_wp2_with fail
      go_ret
      exact ⟨rfl, HB3.out⟩
    · skip
      have hea := HEA.out
      have heb := HEB.out
      simp only [if_true] at hea heb
      obtain ⟨hane, haall⟩ : la ≠ [] ∧ AllD la := of_decide_eq_true HOA.out.symm
      obtain ⟨hbne, hball⟩ : lb ≠ [] ∧ AllD lb := of_decide_eq_true HOB.out.symm
      have hxa : xa = readP la p := by rw [HXA.out, nearP_ok haall hane]
      have hxb : xb = readP lb p := by rw [HXB.out, nearP_ok hball hbne]
      have hxaI : xa ≤ INF := by rw [hxa]; exact readP_le _ _
      have hxbI : xb ≤ INF := by rw [hxb]; exact readP_le _ _
      have HAA := Lib.hid haall; have HAN := Lib.hid hane; have HBA := Lib.hid hball
      have HXA2 := Lib.hid hxa; have HXB2 := Lib.hid hxb
      have HXI := Lib.hid hxaI
      clear HEA HEB hxa hxb haall hane hball hbne HXA HXB HOA HOB
      go_wp2_with fail
      refine (HNA.out _).mono ?_
      rintro e w2 ⟨rfl, hb2⟩
      have e0 := below_keep' hb2 d0
      have e1 := below_keep' hb2 d1
      have e2 := below_keep' hb2 d2
      have e3 := below_keep' hb2 d3
      have HB2 := Lib.hid (HB1.out.trans (hb2.mono HB1.out.size))
      clear hb2 d0 d1 d2 d3
      go_wp2_with fail
      refine (HNB.out _).mono ?_
      rintro e w3 ⟨rfl, hb3⟩
      have f0 := below_keep' hb3 e0
      have f1 := below_keep' hb3 e1
      have f2 := below_keep' hb3 e2
      have f3 := below_keep' hb3 e3
      have HB3 := Lib.hid (HB2.out.trans (hb3.mono HB2.out.size))
      clear hb3 e0 e1 e2 e3
      go_wp2_with fail
      refine (stands_any A B _ (by omega) (by omega)).mono ?_
      rintro e w' ⟨c, rfl, hst, rfl⟩
      rw [← HLA.out, ← HLB.out] at hst
      obtain ⟨k1, k2, k3⟩ := stands_reads HAA.out HBA.out hst p
      rw [← HXA2.out, ← HXB2.out] at k1 k2 k3
      have hc3 : c = -1 ∨ c = 1 ∨ c = 0 := by
        rcases hst with ⟨h, -⟩ | ⟨h, -⟩ | ⟨h, -⟩
        · exact Or.inl h
        · exact Or.inr (Or.inl h)
        · exact Or.inr (Or.inr h)
      have K1 := Lib.hid k1; have K2 := Lib.hid k2; have K3 := Lib.hid k3
      clear k1 k2 k3 hst
      go_upto_region 13 with (fail)
      go_cut [125] (fun tv wx => w3 = wx ∧ tv = .bool false)
      case first =>
        rcases hc3 with rfl | rfl | rfl
        · have t1 : (FloatKind.f64.format.order xa xb == some Ordering.gt) = false := by
            rw [rung_order hxaI hxbI]
            have := K1.out (by omega)
            rcases Nat.lt_or_ge xa xb with h | h
            · rw [cmp_lt (by omega)]; rfl
            · rw [cmp_eq (by omega)]; rfl
          go_wp2_with fail
          go_meet
          exact ⟨rfl, rfl⟩
        · have t1 : (FloatKind.f64.format.order xa xb == some Ordering.lt) = false := by
            rw [rung_order hxaI hxbI]
            have := K2.out (by omega)
            rcases Nat.lt_or_ge xb xa with h | h
            · rw [cmp_gt (by omega)]; rfl
            · rw [cmp_eq (by omega)]; rfl
          go_wp2_with fail
          go_meet
          exact ⟨rfl, rfl⟩
        · have t1 : (FloatKind.f64.format.order xa xb != some Ordering.eq) = false := by
            rw [rung_eq_order hxaI hxbI, decide_eq_true (K3.out rfl)]; rfl
          go_wp2_with fail
          go_meet
          exact ⟨rfl, rfl⟩
      case rest =>
        obtain ⟨rfl, rfl⟩ := hcut
        clear hc3
        obtain ⟨n, hn⟩ : ∃ n : Nat, min (max 0 z) 2000 = (n : Int) := ⟨(min (max 0 z) 2000).toNat, by omega⟩
        have hn2 : n ≤ 2000 := by omega
        have hn2I : (n : Int) ≤ 2000 := by omega
        have hAI : (A.size : Int) ≤ 140737488351232 := by omega
        have tx : (FloatKind.f64.format.order xa xa != some Ordering.eq) = false := by
          rw [rung_eq_order hxaI hxaI, decide_eq_true rfl]; rfl
        go_wp2_with fail
        go_loopw [16, 17] (fun sv iv wr => ∃ (i : Nat) (t : ByteArray), iv = .int .i64 i ∧ i ≤ n ∧ sv = .string t ∧ t.data.toList = la ++ List.replicate i 48 ∧ w3 = wr) (fun _ iv _ => n - (intOf iv).toNat)
        case atStart => exact ⟨0, A, rfl, by omega, rfl, by rw [← HLA.out]; simp, rfl⟩
        case round =>
          obtain ⟨i, t, rfl, hi, rfl, ht, rfl⟩ := hrel
          have hts : t.size = A.size + i := by
            rw [← ba_list, ht, List.length_append, List.length_replicate, HLA.out, ba_list]
          have htI : (t.size : Int) ≤ 140737488355328 := by omega
          have HT := Lib.hid ht
          by_cases hlt : i < n
          · have hltI : (i : Int) < n := by omega
            clear ht
            go_wp2_with fail
            go_roundw
            case rel => exact ⟨i + 1, _, by go_num, by omega, rfl, by rw [ByteArray.data_append, Array.toList_append, HT.out, List.append_assoc, List.replicate_succ'] <;> rfl, by first | trivial | rfl⟩
            case measure => simp [intOf]; omega
          · have hin : i = n := by omega
            subst hin
            have hnt := fun w => nearest_any t p w (by omega) hp0 hp1
            have hall : AllD (la ++ List.replicate i 48) := padTo_all' HAA.out i
            rw [ht, nearP_ok hall (by simp [HAN.out]), readP_behind, ← HXA2.out] at hnt
            have HNT := Lib.hid hnt
            clear hnt ht hall
            go_wp2_with fail
            refine (HNT.out _).mono ?_
            rintro e w4 ⟨rfl, hb4⟩
            have g0 := below_keep' hb4 f0
            have g2 := below_keep' hb4 f2
            have HB4 := Lib.hid (HB3.out.trans (hb4.mono HB3.out.size))
            clear hb4 f0 f1 f2 f3 HT
            go_upto_if 155 with (fail)
            go_cut [18, 19, 20, 21] (fun _ _ _ _ wx => ∃ w5, w5 = wx ∧ Below w4.heap.size w4 w5)
            case first =>
              by_cases hp62 : p < 4611686018427387904
              · go_wp2_with fail
                go_loopw [20, 21] (fun sv iv wr => ∃ (j : Nat) (u : ByteArray), iv = .int .i64 j ∧ j ≤ i ∧ sv = .string u ∧ u.data.toList = List.replicate j 48 ++ la ∧ w4 = wr) (fun _ iv _ => i - (intOf iv).toNat)
                case atStart => exact ⟨0, A, rfl, by omega, rfl, by rw [← HLA.out]; simp, rfl⟩
                case round =>
                  obtain ⟨j, u, rfl, hj, rfl, hu, rfl⟩ := hrel
                  have hus : u.size = A.size + j := by
                    rw [← ba_list, hu, List.length_append, List.length_replicate, HLA.out, ba_list]; omega
                  have huI : (u.size : Int) ≤ 140737488355328 := by omega
                  have HU := Lib.hid hu
                  by_cases hlt : j < i
                  · have hltI : (j : Int) < i := by omega
                    clear hu
                    go_wp2_with fail
                    go_roundw
                    case rel => exact ⟨j + 1, _, by go_num, by omega, rfl, by rw [ByteArray.data_append, Array.toList_append, HU.out, List.replicate_succ]; rfl, by first | trivial | rfl⟩
                    case measure => simp [intOf]; omega
                  · have hjn : j = i := by omega
                    subst hjn
                    have hnu := fun w => nearest_any u (p + j) w (by omega) (by omega) (by omega)
                    have hall : AllD (List.replicate j 48 ++ la) := by
                      refine AllD.append (fun c hc => ?_) HAA.out
                      rw [List.mem_replicate] at hc
                      rw [hc.2]; decide
                    rw [hu, nearP_ok hall (by simp [HAN.out]), readP_ahead _ _ _ (by rw [HLA.out, ba_list]; omega) (by omega), ← HXA2.out] at hnu
                    have HNU := Lib.hid hnu
                    clear hnu hu hall
                    go_wp2_with fail
                    refine (HNU.out _).mono ?_
                    rintro e w5 ⟨rfl, hb5⟩
                    go_wp2_with fail
                    go_meet
                    exact ⟨_, rfl, hb5⟩
              · go_wp2_with fail
                go_meet
                exact ⟨_, rfl, Below.refl _ _⟩
            case rest =>
              obtain ⟨w5, rfl, hb5⟩ := hcut
              have m0 := below_keep' hb5 g0
              have HB5 := Lib.hid (HB4.out.trans (hb5.mono HB4.out.size))
              clear hb5 g0 g2
              have hq1 := fun w => parse_any (A ++ ⟨#[101, 49]⟩) w (by rw [ByteArray.size_append]; have : (⟨#[101, 49]⟩ : ByteArray).size = 2 := rfl; omega)
              have hq2 := fun w => parse_any (⟨#[45]⟩ ++ A ++ ⟨#[101, 49]⟩) w (by rw [ByteArray.size_append, ByteArray.size_append]; have : (⟨#[101, 49]⟩ : ByteArray).size = 2 := rfl; have : (⟨#[45]⟩ : ByteArray).size = 1 := rfl; omega)
              have l1 : (A ++ (⟨#[101, 49]⟩ : ByteArray)).data.toList = la ++ [101, 49] := by rw [ByteArray.data_append, Array.toList_append, ← HLA.out]
              have l2 : ((⟨#[45]⟩ : ByteArray) ++ A ++ (⟨#[101, 49]⟩ : ByteArray)).data.toList = [45] ++ la ++ [101, 49] := by rw [ByteArray.data_append, Array.toList_append, ByteArray.data_append, Array.toList_append, ← HLA.out]
              rw [l1, parse_e1 HAA.out HAN.out] at hq1
              rw [l2, parse_me1 HAA.out HAN.out] at hq2
              obtain ⟨y, hy⟩ : ∃ y, y = readP la ((la.length : Nat) + 1 : Int) := ⟨_, rfl⟩
              obtain ⟨k, hk⟩ : ∃ k, k = la.length + 2 := ⟨_, rfl⟩
              rw [← hy] at hq1 hq2
              rw [← hk] at hq1
              rw [show la.length + 3 = k + 1 by omega] at hq2
              have hyI : y ≤ INF := by rw [hy]; exact readP_le _ _
              have hy63 : y < 2 ^ 63 := by have := INF_lt; omega
              rw [Nat.mod_eq_of_lt hy63] at hq2
              have hxor := xor_top hy63
              obtain ⟨yy, hyy⟩ : ∃ yy, yy = y + 2 ^ 63 := ⟨_, rfl⟩
              rw [← hyy] at hq2 hxor
              have hkI : ((k : Nat) : Int) ≤ 140737488355328 := by rw [hk, HLA.out, ba_list]; omega
              have HQ1 := Lib.hid hq1; have HQ2 := Lib.hid hq2
              have HK := Lib.hid hk
              clear hq1 hq2 l1 l2 hy hk hyy
              go_wp2_with fail
              refine (HQ1.out _).mono ?_
              rintro e w6 ⟨rfl, hb6⟩
              have o0 := below_keep' hb6 m0
              have HB6 := Lib.hid (HB5.out.trans (hb6.mono HB5.out.size))
              clear hb6 m0
              go_wp2_with fail
              refine (HQ2.out _).mono ?_
              rintro e w7 ⟨rfl, hb7⟩
              have HB7 := Lib.hid (HB6.out.trans (hb7.mono HB6.out.size))
              clear hb7
              go_wp2_with fail
              go_ret
              exact ⟨rfl, HB7.out⟩

end Go.Proofs.YteophaobcebppaaGreatDoor.dg
