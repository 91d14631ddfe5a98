/- The walk of galleyref03.Read. Conditions: nothing but digits; the text can be held. -/
import Derived.Test.YteophaobcebppaaGreatDoorRefJ
set_option linter.unusedSimpArgs false
namespace Go.Proofs.YteophaobcebppaaGreatDoor.dg
open Go.RowKit
set_option linter.unusedVariables false

theorem dval_take_next {l : List UInt8} {i : Nat} (h : i < l.length) : dval (l.take (i + 1)) = dval (l.take i) * 10 + (l[i].toNat - 48) := by
  rw [List.take_succ_eq_append_getElem h, dval_append, List.length_singleton, Nat.pow_one, dval_cons, dval_nil, List.length_nil, Nat.pow_zero, Nat.mul_one, Nat.add_zero]

theorem wds_dval {l : List UInt8} (h : AllD l) (n : Nat) (hn : l.length ≤ n) : (wds (dval l)).length ≤ n :=
  wds_len_of_lt (Nat.lt_of_lt_of_le (dval_lt h) (Nat.le_trans (Nat.pow_le_pow_right (by omega) hn) (Nat.pow_le_pow_left (by rw [B32_def]; omega) _)))

set_option maxHeartbeats 3200000 in
set_option maxRecDepth 100000 in
theorem rread_any (s : ByteArray) (p : Int) (w : World) (h : AllD s.data.toList) (hl : s.size ≤ 1073741823) (hp0 : -9223372036854775808 ≤ p) (hp1 : p ≤ 9223372036854775807) :
    Calls Tryz.prog 33 #[.string s, .int .i64 p] w fun e w' => e = .returned (.int .u64 (readP s.data.toList p : Nat)) ∧ Below w.heap.size w w' := by
  obtain ⟨l, hls⟩ : ∃ l, l = s.data.toList := ⟨_, rfl⟩
  have hll := ba_list s
  rw [← hls] at h hll ⊢
  obtain ⟨out, hout⟩ : ∃ out, out = readP l p := ⟨_, rfl⟩
  rw [← hout]
  unfold readP at hout
  have HOUT := Lib.hid hout
  have HLS := Lib.hid hls
  have HD := Lib.hid h
  clear hout hls h
  go_enter Tryz.func33, Tryz.ntmps33
  go_wp2_with fail
  go_loop [5] (fun i => ∃ k : Nat, k ≤ s.size ∧ i = .int .i64 k ∧ ∀ (j : Nat) b, j < k → l[j]? = some b → b = 48) (fun i => s.size - (intOf i).toNat)
  case atStart => exact ⟨0, by omega, rfl, fun j b hj => by omega⟩
  case round =>
    obtain ⟨k, hk, rfl, hz⟩ := hrel
    have HZ := Lib.hid hz; clear hz
    by_cases hgo : ∃ hlt : k < s.size, ((s[k].toNat : Nat) : Int) = 48
    · obtain ⟨hlt, h48⟩ := hgo
      have e1 := at_isI HLS.out hlt (c := 48) 48 rfl h48
      have hn : ∀ (j : Nat) b, j < k + 1 → l[j]? = some b → b = 48 := by
        intro j b hj hb
        by_cases hjk : j < k
        · exact HZ.out j b hjk hb
        · have : j = k := by omega
          subst this
          rw [e1] at hb
          exact (Option.some.inj hb).symm
      have HN := Lib.hid hn
      clear hn e1
      go_wp2_with fail
      go_round
      case rel => exact ⟨k + 1, by omega, by go_num, HN.out⟩
      case measure => simp [intOf]; omega
    · have hstop : ∀ b, l[k]? = some b → b ≠ 48 := by
        intro b hb e
        subst e
        have hlt : k < s.size := by
          rcases Nat.lt_or_ge k s.size with a | a
          · exact a
          · rw [List.getElem?_eq_none (by omega)] at hb; cases hb
        refine hgo ⟨hlt, ?_⟩
        rw [HLS.out, at_some s k hlt] at hb
        rw [Option.some.inj hb]; rfl
      have hleft := Lib.trimLeftB_drop l 48 k (by omega) HZ.out hstop
      have HL := Lib.hid hleft
      have HSTOP := Lib.hid hstop
      clear hleft hstop
      by_cases hlt : k < s.size
      · have hn48 : ¬ ((s[k].toNat : Nat) : Int) = 48 := fun e => hgo ⟨hlt, e⟩
        clear hgo
        have hstk : ¬ l[k]? = some 48 := fun e => HSTOP.out _ e rfl
        have HSTK := Lib.hid hstk
        clear hstk HSTOP HZ
        go_wp2_with fail
        go_loop [6] (fun i => ∃ t : Nat, k < t ∧ t ≤ s.size ∧ i = .int .i64 t ∧ ∀ (j : Nat) b, t ≤ j → l[j]? = some b → b = 48) (fun i => (intOf i).toNat)
        case atStart => exact ⟨s.size, hlt, by omega, rfl, fun j b hj hb => by rw [List.getElem?_eq_none (by omega)] at hb; cases hb⟩
        case round =>
          obtain ⟨t, hkt, hts, rfl, hz⟩ := hrel
          have HZ := Lib.hid hz; clear hz
          obtain ⟨q, rfl⟩ : ∃ q, t = q + 1 := ⟨t - 1, by omega⟩
          have hq : q < s.size := by omega
          have hqI : (((q + 1 : Nat) : Int) - 1) = (q : Int) := by omega
          by_cases h48 : ((s[q].toNat : Nat) : Int) = 48
          · have e1 := at_isI HLS.out hq (c := 48) 48 rfl h48
            have hqk : k < q := by
              rcases Nat.lt_or_ge k q with a | a
              · exact a
              · have : q = k := by omega
                subst this
                exact absurd e1 HSTK.out
            have hn : ∀ (j : Nat) b, q ≤ j → l[j]? = some b → b = 48 := by
              intro j b hj hb
              by_cases hjk : q < j
              · exact HZ.out j b hjk hb
              · have : j = q := by omega
                subst this
                rw [e1] at hb
                exact (Option.some.inj hb).symm
            have HN := Lib.hid hn
            clear hn e1
            go_wp2_with fail
            go_round
            case rel => exact ⟨q, hqk, by omega, by go_num, HN.out⟩
            case measure => simp [intOf]
          · have n1 := at_notI HLS.out hq (c := 48) 48 rfl h48
            have hr2 : Lib.trimRightB (l.drop k) 48 = (l.drop k).take (q + 1 - k) := by
              refine Lib.trimRightB_take (l.drop k) 48 (q + 1 - k) (by rw [List.length_drop]; omega) ?_ ?_
              · intro j b hj hb
                rw [List.getElem?_drop] at hb
                exact HZ.out _ b (by omega) hb
              · intro b h0 hb e
                rw [List.getElem?_drop, show k + (q + 1 - k - 1) = q from by omega, e] at hb
                exact n1 hb
            have hout := HOUT.out
            rw [HL.out, hr2] at hout
            obtain ⟨r2, hr2e⟩ : ∃ r2, r2 = (l.drop k).take (q + 1 - k) := ⟨_, rfl⟩
            have hr2l : r2.length = q + 1 - k := by rw [hr2e, List.length_take, List.length_drop]; omega
            have hr2d : AllD r2 := by rw [hr2e]; exact (HD.out.drop k).take _
            have hrne : l.drop k ≠ [] := fun e => by have := congrArg List.length e; rw [List.length_drop, List.length_nil] at this; omega
            have hhd2 : ∀ c t, r2 = c :: t → c ≠ 48 := by
              intro c t e e2
              subst e2
              have h1 : r2[0]? = some 48 := by rw [e]; rfl
              rw [hr2e, List.getElem?_take, if_pos (by omega), List.getElem?_drop, Nat.add_zero] at h1
              exact HSTK.out h1
            rw [← hr2e] at hout
            have hlen : ((l.length : Nat) : Int) - ((l.drop k).length : Nat) = (k : Int) := by rw [List.length_drop]; omega
            simp only [hlen] at hout
            by_cases hfar : p < -1099511627776
            · have hres : out = 0 := by rw [hout, if_pos (Or.inr hfar)]
              have HRES := Lib.hid hres
              clear hres hout hr2 hr2e hr2l hr2d hrne hhd2 hlen n1
              go_wp2_with fail
              go_ret
              exact ⟨by rw [HRES.out]; rfl, Below.refl _ _⟩
            · rw [if_neg (by rintro (a | a); exact hrne a; exact hfar a)] at hout
              by_cases hfar2 : 1099511627776 < p
              · have hres : out = INF := by rw [hout, if_pos (by omega)]
                rw [INF_val] at hres
                have HRES := Lib.hid hres
                clear hres hout hr2 hr2e hr2l hr2d hrne hhd2 hlen n1
                go_wp2_with fail
                go_ret
                exact ⟨by rw [HRES.out]; rfl, Below.refl _ _⟩
              · obtain ⟨p2, hp2⟩ : ∃ p2 : Int, p - (k : Int) = p2 := ⟨_, rfl⟩
                rw [hp2] at hout
                have hp20 : -1200000000000 ≤ p2 := by omega
                have hp21 : p2 ≤ 1200000000000 := by omega
                by_cases hbig : 400 < p2
                · have hres : out = INF := by rw [hout, if_pos hbig]
                  rw [INF_val] at hres
                  have HRES := Lib.hid hres
                  clear hres hout hr2 hr2e hr2l hr2d hrne hhd2 hlen n1
                  go_wp2_with fail
                  go_ret
                  exact ⟨by rw [HRES.out]; rfl, Below.refl _ _⟩
                · rw [if_neg hbig] at hout
                  by_cases hsmall : p2 < -400
                  · have hres : out = 0 := by rw [hout, if_pos hsmall]
                    have HRES := Lib.hid hres
                    clear hres hout hr2 hr2e hr2l hr2d hrne hhd2 hlen n1
                    go_wp2_with fail
                    go_ret
                    exact ⟨by rw [HRES.out]; rfl, Below.refl _ _⟩
                  · rw [if_neg hsmall] at hout
                    obtain ⟨r3, hr3⟩ : ∃ r3, r3 = if 800 < r2.length then r2.take 800 ++ [49] else r2 := ⟨_, rfl⟩
                    rw [← hr3] at hout
                    have hr2n : r2.length ≠ 0 := by omega
                    have hr3d : AllD r3 := by
                      rw [hr3]
                      split
                      · refine (hr2d.take 800).append (fun c hc => ?_)
                        rw [List.mem_singleton] at hc; subst hc; decide
                      · exact hr2d
                    have hr3l : r3.length ≤ 801 := by
                      rw [hr3]
                      split
                      · rw [List.length_append, List.length_take, List.length_singleton]; omega
                      · omega
                    -- the digits between
                    obtain ⟨db, hdb⟩ : ∃ db, db = s.extract k (q + 1) := ⟨_, rfl⟩
                    have hdbl : db.data.toList = r2 := by
                      rw [hdb, hr2e, HLS.out, ByteArray.data_extract, Array.toList_extract, List.extract_eq_take_drop]
                    have hdbs : db.size = r2.length := by rw [← ba_list, hdbl]
                    have HOUT2 := Lib.hid hout
                    have HR3 := Lib.hid hr3
                    have HDB := Lib.hid hdb
                    have HDL := Lib.hid hdbl
                    have hkq : k ≤ q + 1 := by omega
                    have hqs : q + 1 ≤ s.size := by omega
                    clear hout hr3 hdb hdbl hr2 hr2e hr2d hhd2 hrne hlen n1 HZ HSTK HL HOUT
                    go_upto_region 17 with (fail)
                    rw [← HDB.out]
                    go_upto_if 59 with (fail)
                    go_cut [8] (fun sv wx => w = wx ∧ ∃ r3b : ByteArray, sv = .string r3b ∧ r3b.data.toList = r3)
                    case first =>
                      by_cases h8 : 800 < r2.length
                      · go_wp2_with fail
                        go_meet
                        refine ⟨rfl, _, rfl, ?_⟩
                        rw [HR3.out, if_pos h8, ByteArray.data_append, Array.toList_append, ba_take, HDL.out]
                      · go_wp2_with fail
                        go_meet
                        refine ⟨rfl, _, rfl, ?_⟩
                        rw [HR3.out, if_neg h8, HDL.out]
                    case rest =>
                      obtain ⟨rfl, r3b, rfl, hr3b⟩ := hcut
                      have hr3s := ba_list r3b
                      rw [hr3b] at hr3s
                      have HR3B := Lib.hid hr3b
                      clear hr3b HR3 HDB HDL hdbs hr2n hr2l
                      go_wp2_with fail
                      go_loopw [9, 10] (fun cv i wr => ∃ j : Nat, j ≤ r3.length ∧ i = .int .i64 j ∧ Rd32 wr cv (wds (dval (r3.take j))) ∧ Below w.heap.size w wr) (fun _ i _ => r3.length - (intOf i).toNat)
                      case atStart =>
                        refine ⟨0, by omega, rfl, ?_, (Below.refl _ _).alloc (Nat.le_refl _) _⟩
                        rw [List.take_zero, dval_nil, wds_zero]
                        exact ⟨_, 0, rfl, by simp, by simp [maxLen], fun h => absurd rfl h⟩
                      case round =>
                        obtain ⟨j, hj, rfl, hcv, hbw⟩ := hrel
                        have hwl : (wds (dval (r3.take j))).length ≤ 803 := wds_dval (hr3d.take j) 803 (by rw [List.length_take]; omega)
                        by_cases hjl : j < r3.length
                        · have hjs : j < r3b.size := by omega
                          obtain ⟨x, hx⟩ : ∃ x : Nat, x = r3b[j].toNat := ⟨_, rfl⟩
                          have hxr : r3[j].toNat = x := by
                            have h1 := at_some r3b j hjs
                            rw [HR3B.out, List.getElem?_eq_getElem hjl] at h1
                            rw [hx, Option.some.inj h1]
                          have hxd := hr3d r3[j] (List.getElem_mem _)
                          rw [hxr] at hxd
                          have hnext := dval_take_next hjl
                          rw [hxr] at hnext
                          have hxI : ((r3b[j].toNat : Nat) : Int) = (x : Int) := by rw [← hx]
                          obtain ⟨y, hy⟩ : ∃ y : Nat, (x : Int) - 48 = (y : Int) := ⟨x - 48, by omega⟩
                          have hy9 : y ≤ 9 := by omega
                          have ht := rtimes_int _ (dval (r3.take j)) 10 (y : Int) wr hcv (by omega) (by rw [B32_def]; omega) (by omega) (by rw [B32_def]; omega) (by omega)
                          rw [Int.toNat_natCast, show (10 : Int).toNat = 10 from rfl, show y = x - 48 from by omega, ← hnext] at ht
                          rw [← show y = x - 48 from by omega] at ht
                          have HT := Lib.hid ht
                          clear ht hnext hcv hxr hx
                          go_wp2_with fail
                          refine HT.out.mono ?_
                          rintro e w1 ⟨v1, rfl, hv1, -, -, hb1⟩
                          go_wp2_with fail
                          go_roundw
                          case rel => exact ⟨j + 1, by omega, by go_num, hv1, hbw.trans (hb1.mono hbw.size)⟩
                          case measure => simp [intOf]; omega
                        · have hje : j = r3.length := by omega
                          rw [hje, List.take_length] at hcv hwl
                          have hval := value_any _ (dval r3) (p2 - (r3b.size : Int)) wr hcv (by omega) (by omega) (by omega)
                          have hout := HOUT2.out
                          rw [hr3s] at hout
                          obtain ⟨g, hg⟩ : ∃ g : Int, g = p2 - (r3b.size : Int) := ⟨_, rfl⟩
                          have hg0 : -1300 ≤ g := by omega
                          have hg1 : g ≤ 1300 := by omega
                          have hlA : (wds (dval r3 * 10 ^ g.toNat)).length ≤ 100000 := by
                            have := wds_mul (dval r3) (10 ^ g.toNat); have := wds_ten g.toNat; omega
                          have hlB : (wds (10 ^ (-g).toNat)).length ≤ 100000 := by have := wds_ten (-g).toNat; omega
                          have hB0 : 0 < 10 ^ (-g).toNat := Nat.pow_pos (by omega)
                          unfold decv at hout
                          rw [← hg] at hval hout
                          have hgI : p2 - (r3b.size : Int) = g := hg.symm
                          clear hcv hg
                          generalize dval r3 * 10 ^ g.toNat = A at *
                          generalize 10 ^ (-g).toNat = B at *
                          have hnear := fun vp ww (hp : RdP ww vp A B) => rnearest_any vp A B ww hp hB0 hlA hlB
                          simp only [← hout] at hnear
                          have HVAL := Lib.hid hval
                          have HN := Lib.hid hnear
                          clear hval hnear hout HOUT2 hlA hlB
                          go_wp2_with fail
                          refine HVAL.out.mono ?_
                          rintro e w1 ⟨v1, rfl, hv1, hb1⟩
                          have HV1 := Lib.hid hv1
                          clear hv1
                          go_wp2_with fail
                          refine (HN.out _ _ HV1.out).mono ?_
                          rintro e w2 ⟨rfl, hb2⟩
                          go_wp2_with fail
                          go_ret
                          exact ⟨rfl, hbw.trans ((Below.seq hb1 hb2).mono hbw.size)⟩
      · clear hgo
        have hke : k = s.size := by omega
        have hres : out = 0 := by
          rw [HOUT.out, HL.out, if_pos (Or.inl (List.drop_eq_nil_of_le (by omega)))]
        have HRES := Lib.hid hres
        clear hres
        subst hke
        go_wp2_with fail
        go_loop [6] (fun i => i = .int .i64 s.size) (fun i => (intOf i).toNat)
        case atStart => rfl
        case round =>
          subst hrel
          go_wp2_with fail
          go_ret
          exact ⟨by rw [HRES.out]; rfl, Below.refl _ _⟩

end Go.Proofs.YteophaobcebppaaGreatDoor.dg
