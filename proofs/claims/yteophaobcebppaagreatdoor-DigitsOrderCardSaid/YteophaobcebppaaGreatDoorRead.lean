/- The walk of digits.read: what the program makes of digits at a point. Conditions: nothing but digits; the text can be held. -/
import Derived.Test.YteophaobcebppaaGreatDoorDig
set_option linter.unusedSimpArgs false
namespace Go.Proofs.YteophaobcebppaaGreatDoor.dg
open Go.RowKit
set_option linter.unusedVariables false

/-- the binary64 nearest to c times ten to the power k. -/
def decv (c : Nat) (k : Int) : Nat := rd (c * 10 ^ k.toNat * 2 ^ 1074) (10 ^ (-k).toNat)

/-- what digits.read makes of digits at a point. -/
def readP (l : List UInt8) (p : Int) : Nat :=
  let r := Lib.trimLeftB l 48
  if r = [] ∨ p < -1099511627776 then 0 else
  let p2 := p - (l.length - r.length)
  let r2 := Lib.trimRightB r 48
  if 400 < p2 then INF else if p2 < -400 then 0 else
  let r3 := if 800 < r2.length then r2.take 800 ++ [49] else r2
  decv (dval r3) (p2 - r3.length)

theorem AllD.left {l : List UInt8} (h : AllD l) : AllD (Lib.trimLeftB l 48) := fun c hc => h c ((List.dropWhile_sublist _).subset hc)
theorem AllD.right {l : List UInt8} (h : AllD l) : AllD (Lib.trimRightB l 48) := fun c hc => by
  unfold Lib.trimRightB at hc
  rw [List.mem_reverse] at hc
  exact h c (List.mem_reverse.1 ((List.dropWhile_sublist _).subset hc))
theorem left_len (l : List UInt8) : (Lib.trimLeftB l 48).length ≤ l.length := (List.dropWhile_sublist _).length_le
theorem right_len (l : List UInt8) : (Lib.trimRightB l 48).length ≤ l.length := by
  unfold Lib.trimRightB
  rw [List.length_reverse]
  have := (List.dropWhile_sublist (· == (48 : UInt8)) (l := l.reverse)).length_le
  rw [List.length_reverse] at this; exact this
theorem left_head {l r : List UInt8} {c : UInt8} (h : Lib.trimLeftB l 48 = c :: r) : c ≠ 48 := by
  unfold Lib.trimLeftB at h
  have := List.head?_dropWhile_not (fun x => x == (48 : UInt8)) l
  rw [h] at this
  simpa using this
theorem left_split (l : List UInt8) : ∃ z, l = List.replicate z 48 ++ Lib.trimLeftB l 48 := by
  refine ⟨(l.takeWhile (· == 48)).length, ?_⟩
  conv => lhs; rw [← List.takeWhile_append_dropWhile (p := (· == (48 : UInt8))) (l := l)]
  congr 1
  exact List.eq_replicate_of_mem fun b hb => by have := List.all_eq_true.1 (List.all_takeWhile (p := (· == (48 : UInt8))) (l := l)) b hb; simpa using this
theorem right_split (l : List UInt8) : ∃ z, l = Lib.trimRightB l 48 ++ List.replicate z 48 := by
  obtain ⟨z, hz⟩ := left_split l.reverse
  refine ⟨z, ?_⟩
  have := congrArg List.reverse hz
  rw [List.reverse_reverse, List.reverse_append, List.reverse_replicate] at this
  exact this
theorem right_last {l r : List UInt8} {c : UInt8} (h : Lib.trimRightB l 48 = r ++ [c]) : c ≠ 48 := by
  have h2 : Lib.trimLeftB l.reverse 48 = c :: r.reverse := by
    have := congrArg List.reverse h
    rw [List.reverse_append] at this
    unfold Lib.trimRightB at this
    rw [List.reverse_reverse] at this
    exact this
  exact left_head h2
theorem right_nil {l : List UInt8} (h0 : l ≠ []) (h : ∀ c r, l = c :: r → c ≠ 48) : Lib.trimRightB l 48 ≠ [] := by
  intro h2
  obtain ⟨z, hz⟩ := right_split l
  rw [h2, List.nil_append] at hz
  cases z with
  | zero => exact h0 hz
  | succ z => exact h 48 _ hz rfl

theorem dval_zeros (z : Nat) : dval (List.replicate z 48) = 0 := by
  induction z with
  | zero => exact dval_nil
  | succ z ih => rw [List.replicate_succ, dval_cons, ih]; simp

theorem dval_pos {l : List UInt8} (h : AllD l) (h0 : ∀ c r, l = c :: r → c ≠ 48) (hne : l ≠ []) : 10 ^ (l.length - 1) ≤ dval l := by
  cases l with
  | nil => exact absurd rfl hne
  | cons c r =>
    have h1 := h0 c r rfl
    have h2 := h c (List.mem_cons_self ..)
    have h3 : c.toNat ≠ 48 := fun e => h1 (UInt8.toNat_inj.1 e)
    rw [dval_cons, List.length_cons, Nat.add_sub_cancel]
    have : 1 * 10 ^ r.length ≤ (c.toNat - 48) * 10 ^ r.length := Nat.mul_le_mul_right _ (by omega)
    omega

/-- a string of a list. -/
theorem ba_of (l : List UInt8) : (⟨l.toArray⟩ : ByteArray).size = l.length := by simp [ByteArray.size]
theorem ba_of_list (l : List UInt8) : (⟨l.toArray⟩ : ByteArray).data.toList = l := by simp

theorem words_ten (k : Nat) : (words (10 ^ k)).length ≤ k + 1 :=
  words_len_of_lt (Nat.lt_of_lt_of_le (Nat.pow_lt_pow_right (by omega) (Nat.lt_succ_self k)) (Nat.pow_le_pow_left (by rw [B64_def]; omega) _))
theorem words_mul (a b : Nat) : (words (a * b)).length ≤ (words a).length + (words b).length := by
  refine words_len_of_lt ?_
  rw [Nat.pow_add]
  exact Nat.mul_lt_mul'' (lt_pow_words a) (lt_pow_words b)

set_option maxHeartbeats 1600000 in
theorem read_any (s : ByteArray) (p : Int) (w : World) (h : AllD s.data.toList) (hl : s.size ≤ 281474976710656) (hp0 : -9223372036854775808 ≤ p) (hp1 : p ≤ 9223372036854775807) :
    Calls Tryz.prog 28 #[.string s, .int .i64 p] w fun e w' => e = .returned (.float .f64 (readP s.data.toList p)) ∧ Below w.heap.size w w' := by
  obtain ⟨l, hls⟩ : ∃ l, l = s.data.toList := ⟨_, rfl⟩
  have hll := ba_list s
  rw [← hls] at h hll ⊢
  have hleft := Tryz.strings_TrimLeft_one s 48 (by decide) w
  rw [← hls] at hleft
  obtain ⟨r, hr⟩ : ∃ r, r = Lib.trimLeftB l 48 := ⟨_, rfl⟩
  have hrl := left_len l
  rw [← hr] at hleft hrl
  have hrd : AllD r := by rw [hr]; exact h.left
  obtain ⟨out, hout⟩ : ∃ out, out = readP l p := ⟨_, rfl⟩
  rw [← hout]
  unfold readP at hout
  simp only [← hr] at hout
  have hrs := ba_of r
  have hrl2 := ba_of_list r
  generalize (⟨r.toArray⟩ : ByteArray) = rb at *
  have HLEFT := Lib.hid hleft
  have HOUT := Lib.hid hout
  clear hleft hout hls
  go_enter Tryz.func28, Tryz.ntmps28
  go_wp2_with fail
  refine HLEFT.out.mono ?_
  rintro e w1 ⟨rfl, rfl⟩
  by_cases h0 : rb.size = 0
  · have hemp := ba_empty h0
    have hres : out = 0 := by
      rw [HOUT.out, if_pos (Or.inl (by rw [← List.length_eq_zero_iff]; omega))]
    have HRES := Lib.hid hres
    clear hres h h0 hrs hrl2 hrl hll
    go_wp2_with fail
    go_ret
    exact ⟨ret_f64 (by rw [HRES.out]), Below.refl _ _⟩
  · have hemp := ba_full h0
    have hrne : r ≠ [] := fun e => by rw [e, List.length_nil] at hrs; exact h0 hrs
    by_cases hfar : p < -1099511627776
    · have hres : out = 0 := by rw [HOUT.out, if_pos (Or.inr hfar)]
      have HRES := Lib.hid hres
      clear hres h h0 hrs hrl2 hrl hll hrne
      go_wp2_with fail
      go_ret
      exact ⟨ret_f64 (by rw [HRES.out]), Below.refl _ _⟩
    · have hout := HOUT.out
      rw [if_neg (by rintro (a | a); exact hrne a; exact hfar a)] at hout
      have hright := Tryz.strings_TrimRight_one rb 48 (by decide) w1 (by omega)
      rw [hrl2] at hright
      obtain ⟨r2, hr2⟩ : ∃ r2, r2 = Lib.trimRightB r 48 := ⟨_, rfl⟩
      have hr2l := right_len r
      rw [← hr2] at hright hr2l
      have hr2d : AllD r2 := by rw [hr2]; exact hrd.right
      have hpos2 : r2 ≠ [] := by rw [hr2]; exact right_nil hrne (fun c t e => left_head (l := l) (by rw [← hr]; exact e))
      have hhd2 : ∀ c t, r2 = c :: t → c ≠ 48 := by
        intro c t e
        obtain ⟨z, hz⟩ := right_split r
        rw [← hr2, e, List.cons_append] at hz
        exact left_head (l := l) (by rw [← hr]; exact hz)
      simp only [← hr2] at hout
      have hr2s := ba_of r2
      have hr2l2 := ba_of_list r2
      generalize (⟨r2.toArray⟩ : ByteArray) = r2b at *
      obtain ⟨p2, hp2⟩ : ∃ p2 : Int, p2 = p - ((l.length : Int) - r.length) := ⟨_, rfl⟩
      rw [← hp2] at hout
      have hll' : (s.size : Int) = l.length := by omega
      have hrs' : (rb.size : Int) = r.length := by omega
      have hp20 : -1000000000000000 ≤ p2 := by omega
      have hp21 : p2 ≤ 9223372036854775807 := by omega
      have hpe : p - ((s.size : Int) - (rb.size : Int)) = p2 := by omega
      have hszr : rb.size ≤ s.size := by omega
      have hr2n : r2.length ≠ 0 := fun e => hpos2 (List.length_eq_zero_iff.1 e)
      have HOUT := Lib.hid hout
      have HR := Lib.hid hright
      have HPE := Lib.hid hpe
      clear hout hright hp2 hll' hrs' h hrne hrl hll hrs hr2 hpos2
      go_wp2_with fail
      refine HR.out.mono ?_
      rintro e w2 ⟨rfl, rfl⟩
      by_cases hbig : 400 < p2
      · have hres : out = INF := by rw [HOUT.out, if_pos hbig]
        have HRES := Lib.hid hres
        clear hres
        go_wp2_with fail
        refine (inf_pos _).mono ?_
        rintro e w3 ⟨rfl, rfl⟩
        go_wp2_with fail
        go_ret
        exact ⟨ret_f64 (by rw [HRES.out]), Below.refl _ _⟩
      · by_cases hsmall : p2 < -400
        · have hres : out = 0 := by rw [HOUT.out, if_neg hbig, if_pos hsmall]
          have HRES := Lib.hid hres
          clear hres
          go_wp2_with fail
          go_ret
          exact ⟨ret_f64 (by rw [HRES.out]), Below.refl _ _⟩
        · have hout := HOUT.out
          rw [if_neg hbig, if_neg hsmall] at hout
          obtain ⟨r3, hr3⟩ : ∃ r3, r3 = if 800 < r2.length then r2.take 800 ++ [49] else r2 := ⟨_, rfl⟩
          rw [← hr3] at hout
          have HOUT := Lib.hid hout
          have HR3 := Lib.hid hr3
          have hr3d : AllD r3 := by
            rw [hr3]
            split
            · refine (hr2d.take 800).append (fun c hc => ?_)
              rw [List.mem_singleton] at hc; subst hc; decide
            · exact hr2d
          have hr3l : r3.length ≤ 801 ∧ 0 < r3.length := by
            rw [hr3]
            split
            · rw [List.length_append, List.length_take, List.length_singleton]; omega
            · omega
          have hr3p : dval r3 ≠ 0 := by
            have hne : r3 ≠ [] := fun e => by rw [e, List.length_nil] at hr3l; omega
            have := dval_pos hr3d (fun c t e => by
              rw [hr3] at e
              split at e
              · cases r2 with
                | nil => exact absurd rfl hr2n
                | cons c2 t2 =>
                  rw [List.take_succ_cons, List.cons_append, List.cons.injEq] at e
                  rw [← e.1]; exact hhd2 _ _ rfl
              · exact hhd2 c t e) hne
            have h10 := Nat.pow_pos (n := r3.length - 1) (show 0 < 10 by omega)
            omega
          clear hout hr3 hhd2 hr2l hr hrd hr2d
          go_upto_if 35 with (fail)
          go_cut [5] (fun sv wx => w2 = wx ∧ ∃ r3b : ByteArray, sv = .string r3b ∧ r3b.data.toList = r3)
          case first =>
            by_cases h8 : 800 < r2.length
            · go_wp2_with fail
              go_meet
              refine ⟨rfl, _, rfl, ?_⟩
              rw [HR3.out, if_pos h8, ByteArray.data_append, Array.toList_append, ba_take, hr2l2]
            · go_wp2_with fail
              go_meet
              refine ⟨rfl, _, rfl, ?_⟩
              rw [HR3.out, if_neg h8, hr2l2]
          case rest =>
            obtain ⟨rfl, r3b, rfl, hr3b⟩ := hcut
            have hr3s := ba_list r3b
            rw [hr3b] at hr3s
            have hdig := digits_any r3b w2 (by rw [hr3b]; exact hr3d) (by omega)
            rw [hr3b] at hdig
            have hwd := words_dval hr3d 801 hr3l.1
            have hdlt := dval_lt hr3d
            have HD := Lib.hid hdig
            have hr3s' : r3b.size ≤ 801 := by omega
            have hr3z : (r3b.size : Int) = (r3.length : Int) := by omega
            clear hdig hr3b hr3d hr3l HR3 hr2l2 hr2n hr2s hemp hrl2 h0
            go_wp2_with fail
            refine HD.out.mono ?_
            rintro e w3 ⟨vn, rfl, hvn, hb3⟩
            go_wp2_with fail
            refine (of_any 1 _ (by omega) (by rw [B64_def]; omega)).mono ?_
            rintro e w4 ⟨vo, rfl, hvo, hb4⟩
            obtain ⟨k, hk⟩ : ∃ k : Int, p2 - (r3.length : Int) = k := ⟨_, rfl⟩
            have hout := HOUT.out
            rw [hk] at hout
            unfold decv at hout
            have hk0 : -1300 ≤ k := by omega
            have hk1 : k ≤ 1300 := by omega
            have HOUT2 := Lib.hid hout
            generalize dval r3 = c at *
            clear hout HOUT hdlt HD
            have h1n : (1 : Int).toNat = 1 := rfl
            rw [h1n] at hvo
            have HVN := Lib.hid (hvn.below hb4)
            have HVO := Lib.hid hvo
            have HB := Lib.hid (Below.seq hb3 hb4)
            clear hvn hvo hb3 hb4 h1n
            go_upto_if 47 with (fail)
            go_cut [6, 7] (fun va vb wx => ∃ w5, w5 = wx ∧ Below w2.heap.size w2 w5 ∧ ∃ A B, Rd64 w5 va (words A) ∧ Rd64 w5 vb (words B) ∧ A ≠ 0 ∧ B ≠ 0 ∧ (words A).length ≤ 5000 ∧ (words B).length ≤ 5000 ∧ out = rd (A * 2 ^ 1074) B)
            case first =>
              by_cases hkn : 0 ≤ k
              · have hten := ten_any k w4 hkn (by omega)
                have hw10 := words_ten k.toNat
                have hp10 := Nat.pow_pos (n := k.toNat) (show 0 < 10 by omega)
                have hkz : (-k).toNat = 0 := by omega
                have HT := Lib.hid hten
                have HKZ := Lib.hid hkz
                clear hten hkz
                have hkN : k.toNat ≤ 1300 := by omega
                generalize 10 ^ k.toNat = y at *
                go_wp2_with fail
                refine HT.out.mono ?_
                rintro e w5 ⟨vt, rfl, hvt, hb5⟩
                have hmul := mul_any vn vt c y w5 (HVN.out.below hb5) hvt (by omega)
                have HM := Lib.hid hmul
                clear hmul
                go_wp2_with fail
                refine HM.out.mono ?_
                rintro e w6 ⟨vm, rfl, hvm, hb6⟩
                go_wp2_with fail
                go_meet
                have hwm := words_mul c y
                refine ⟨_, rfl, Below.seq (Below.seq HB.out hb5) hb6, c * y, 1, hvm, (HVO.out.below hb5).below hb6, Nat.mul_ne_zero hr3p (by omega), by omega, by omega, by rw [words_one (by omega) (by rw [B64_def]; omega)]; decide, ?_⟩
                rw [HOUT2.out, HKZ.out]
              · have hten := ten_any (-k) w4 (by omega) (by omega)
                have hw10 := words_ten (-k).toNat
                have hp10 := Nat.pow_pos (n := (-k).toNat) (show 0 < 10 by omega)
                have hkz : k.toNat = 0 := by omega
                have HT := Lib.hid hten
                have HKZ := Lib.hid hkz
                clear hten hkz
                have hkN : (-k).toNat ≤ 1300 := by omega
                generalize 10 ^ (-k).toNat = y at *
                go_wp2_with fail
                refine HT.out.mono ?_
                rintro e w5 ⟨vt, rfl, hvt, hb5⟩
                go_wp2_with fail
                go_meet
                refine ⟨_, rfl, Below.seq HB.out hb5, c, y, HVN.out.below hb5, hvt, hr3p, by omega, by omega, by omega, ?_⟩
                rw [HOUT2.out, HKZ.out, Nat.pow_zero, Nat.mul_one]
            case rest =>
              obtain ⟨w5, rfl, hb5, A, B, hA, hB, hA0, hB0, hlA, hlB, hres⟩ := hcut
              have hrat := ratio_any _ _ A B w5 hA hB hA0 hB0 hlA hlB
              rw [← hres] at hrat
              have HR := Lib.hid hrat
              clear hrat hres hA hB
              go_wp2_with fail
              refine HR.out.mono ?_
              rintro e w6 ⟨rfl, hb6⟩
              go_wp2_with fail
              go_ret
              exact ⟨rfl, Below.seq hb5 hb6⟩

end Go.Proofs.YteophaobcebppaaGreatDoor.dg
