/- The walk of galleyref03.exponent. Conditions: the text can be held.
The walk of galleyref03.Figure. Conditions: the text can be held.
The walk of galleyref03.Parse. Conditions: the text can be held.
Plain: what digits.Parse tells is what the document's Parse tells. Condition: fewer than 2^30 bytes. -/
import Derived.Test.YteophaobcebppaaGreatDoorRefJ
import Derived.Test.YteophaobcebppaaGreatDoorRefK
set_option linter.unusedSimpArgs false
namespace Go.Proofs.YteophaobcebppaaGreatDoor.dg
open Go.RowKit
set_option linter.unusedVariables false

set_option maxHeartbeats 3200000 in
set_option maxRecDepth 100000 in
theorem rexponent_any (s : ByteArray) (l : List UInt8) (hls : l = s.data.toList) (w : World) (hl : s.size ≤ 1073741823) :
    Calls Tryz.prog 66 #[.string s] w fun e w' => e = .returned (.tuple #[.int .i64 (expo 4398046511104 l 0).1, .int .i64 (expo 4398046511104 l 0).2]) ∧ w = w' := by
  have hll := ba_list s
  rw [← hls] at hll
  have HLS := Lib.hid hls
  obtain ⟨X1, hX1⟩ : ∃ X1, X1 = (expo 4398046511104 l 0).1 := ⟨_, rfl⟩
  obtain ⟨X2, hX2⟩ : ∃ X2, X2 = (expo 4398046511104 l 0).2 := ⟨_, rfl⟩
  rw [← hX1, ← hX2]
  have HX1 := Lib.hid hX1
  have HX2 := Lib.hid hX2
  obtain ⟨eb, heb⟩ : ∃ eb : Bool, eb = decide (l[0]? = some 69 ∨ l[0]? = some 101) := ⟨_, rfl⟩
  have HEB := Lib.hid heb
  clear heb hX1 hX2 hls
  go_enter Tryz.func66, Tryz.ntmps66
  go_upto_region 1 with (fail)
  go_cut [21] (fun tv wx => w = wx ∧ tv = .bool (!eb))
  case first =>
    as_aux_lemma =>
    by_cases hlt : 0 < s.size
    · have hb0 : (((s.size : Nat) : Int) == 0) = false := by rw [beq_eq_false_iff_ne]; omega
      by_cases h1 : ((s[0].toNat : Nat) : Int) = 101
      · have e1 := at_isI HLS.out hlt (c := 101) 101 rfl h1
        have he : eb = true := by rw [HEB.out]; exact decide_eq_true (Or.inr e1)
        have HE := Lib.hid he; clear he
        clear e1
        go_wp2_with fail
        go_meet
        exact ⟨rfl, by rw [HE.out]; simp⟩
      · have n1 := at_notI HLS.out hlt (c := 101) 101 rfl h1
        by_cases h2 : ((s[0].toNat : Nat) : Int) = 69
        · have e1 := at_isI HLS.out hlt (c := 69) 69 rfl h2
          have he : eb = true := by rw [HEB.out]; exact decide_eq_true (Or.inl e1)
          have HE := Lib.hid he; clear he
          clear e1 n1
          go_wp2_with fail
          go_meet
          exact ⟨rfl, by rw [HE.out]; simp [h1, h2]⟩
        · have n2 := at_notI HLS.out hlt (c := 69) 69 rfl h2
          have he : eb = false := by rw [HEB.out]; exact decide_eq_false (by rintro (a | a); exact n2 a; exact n1 a)
          have HE := Lib.hid he; clear he
          clear n1 n2
          go_wp2_with fail
          go_meet
          exact ⟨rfl, by rw [HE.out]; simp [h1, h2]⟩
    · have hb0 : (((s.size : Nat) : Int) == 0) = true := by rw [beq_iff_eq]; omega
      have n1 := at_off HLS.out hlt (c := 69)
      have n2 := at_off HLS.out hlt (c := 101)
      have he : eb = false := by rw [HEB.out]; exact decide_eq_false (by rintro (a | a); exact n1 a; exact n2 a)
      have HE := Lib.hid he; clear he
      clear n1 n2
      go_wp2_with fail
      go_meet
      exact ⟨rfl, by rw [HE.out]; simp⟩
  case rest =>
    obtain ⟨rfl, rfl⟩ := hcut
    cases eb
    · have hex : ¬ (l[0]? = some 69 ∨ l[0]? = some 101) := of_decide_eq_false HEB.out.symm
      have hx : X1 = 0 ∧ X2 = 0 := by
        rw [HX1.out, HX2.out]; unfold expo; rw [if_neg hex]; exact ⟨rfl, rfl⟩
      obtain ⟨rfl, rfl⟩ := hx
      clear hex
      go_wp2_with fail
      go_ret2
      exact ⟨rfl, rfl⟩
    · have hex : l[0]? = some 69 ∨ l[0]? = some 101 := of_decide_eq_true HEB.out.symm
      have hlt0 : 0 < s.size := by
        rcases Nat.eq_zero_or_pos s.size with a | a
        · rw [HLS.out, at_none s 0 (by omega)] at hex; simp at hex
        · exact a
      have hxx := HX1.out
      have hyy := HX2.out
      unfold expo at hxx hyy
      rw [if_pos hex] at hxx hyy
      simp only [] at hxx hyy
      have hsl := sgn_le l 1
      have hsi := sgn_in l 1 (by omega)
      rw [show 0 + 1 = 1 from rfl] at hxx hyy
      obtain ⟨g, hg⟩ : ∃ g, g = sgnA l 1 := ⟨_, rfl⟩
      rw [← hg] at hxx hyy hsl hsi
      obtain ⟨n, hn⟩ : ∃ n, n = runL (l.drop (1 + g)) := ⟨_, rfl⟩
      rw [← hn] at hxx hyy
      have hni := run_in l (1 + g) hsi
      rw [← hn] at hni
      have hrun := rrun_any s l HLS.out ((g : Int) + 1) w hl (by omega) (by omega)
      rw [show ((g : Int) + 1).toNat = 1 + g from by omega, ← hn] at hrun
      obtain ⟨nb, hnb⟩ : ∃ nb : Bool, nb = decide (l[1]? = some 45) := ⟨_, rfl⟩
      obtain ⟨gb, hgb⟩ : ∃ gb : Bool, gb = decide (g = 1) := ⟨_, rfl⟩
      have HXX := Lib.hid hxx; have HYY := Lib.hid hyy; have HG := Lib.hid hg; have HN := Lib.hid hn; have HRUN := Lib.hid hrun; have HNB := Lib.hid hnb; have HGB := Lib.hid hgb
      clear hex hxx hyy hg hn hrun hnb hgb HX1 HX2
      go_upto_region 4 with (fail)
      go_cut [5] (fun tv wx => w = wx ∧ tv = .bool nb)
      case first =>
        as_aux_lemma =>
        by_cases hlt : 1 < s.size
        · have e1 := at_bool HLS.out hlt (c := 45) 45 rfl
          have e2 : (((s[1].toNat : Nat) : Int) == 45) = nb := by rw [HNB.out]; exact e1
          clear e1
          go_wp2_with fail
          go_meet
          exact ⟨rfl, by first | rfl | rw [e2]⟩
        · have n1 := at_off HLS.out hlt (c := 45)
          have he : nb = false := by rw [HNB.out]; exact decide_eq_false n1
          subst he
          clear n1
          go_wp2_with fail
          go_meet
          exact ⟨rfl, rfl⟩
      case rest =>
        obtain ⟨rfl, rfl⟩ := hcut
        go_upto_region 5 with (fail)
        go_cut [40] (fun tv wx => w = wx ∧ tv = .bool gb)
        case first =>
          as_aux_lemma =>
          cases nb
          · have n45 : ¬ l[1]? = some 45 := of_decide_eq_false HNB.out.symm
            by_cases hlt : 1 < s.size
            · by_cases h43 : ((s[1].toNat : Nat) : Int) = 43
              · have e1 := at_isI HLS.out hlt (c := 43) 43 rfl h43
                have he : gb = true := by rw [HGB.out, HG.out]; unfold sgnA; rw [if_pos (Or.inl e1)]; rfl
                have HE := Lib.hid he
                clear he e1 n45
                go_wp2_with fail
                go_meet
                exact ⟨rfl, by rw [HE.out] <;> simp [h43]⟩
              · have n1 := at_notI HLS.out hlt (c := 43) 43 rfl h43
                have he : gb = false := by rw [HGB.out, HG.out]; unfold sgnA; rw [if_neg (by rintro (a | a); exact n1 a; exact n45 a)]; rfl
                have HE := Lib.hid he
                clear he n1 n45
                go_wp2_with fail
                go_meet
                exact ⟨rfl, by rw [HE.out] <;> simp [h43]⟩
            · have n1 := at_off HLS.out hlt (c := 43)
              have he : gb = false := by rw [HGB.out, HG.out]; unfold sgnA; rw [if_neg (by rintro (a | a); exact n1 a; exact n45 a)]; rfl
              have HE := Lib.hid he
              clear he n1 n45
              go_wp2_with fail
              go_meet
              exact ⟨rfl, by rw [HE.out]⟩
          · have e45 : l[1]? = some 45 := of_decide_eq_true HNB.out.symm
            have he : gb = true := by rw [HGB.out, HG.out]; unfold sgnA; rw [if_pos (Or.inr e45)]; rfl
            have HE := Lib.hid he
            clear he e45
            go_wp2_with fail
            go_meet
            exact ⟨rfl, by rw [HE.out]⟩
        case rest =>
          obtain ⟨rfl, rfl⟩ := hcut
          go_upto_if 40 with (fail)
          go_cut [4] (fun kv wx => w = wx ∧ kv = .int .i64 ((g : Int) + 1))
          case first =>
            cases gb
            · have hg0 : g = 0 := by have h1 : ¬ g = 1 := of_decide_eq_false HGB.out.symm; omega
              go_wp2_with fail
              go_meet
              exact ⟨rfl, by rw [hg0]; rfl⟩
            · have hg1 : g = 1 := of_decide_eq_true HGB.out.symm
              go_wp2_with fail
              go_meet
              exact ⟨rfl, by rw [hg1]; rfl⟩
          case rest =>
            obtain ⟨rfl, rfl⟩ := hcut
            go_wp2_with fail
            refine HRUN.out.mono ?_
            rintro e w1 ⟨rfl, rfl⟩
            by_cases hn0 : n = 0
            · have hx : X1 = 0 ∧ X2 = 0 := by
                rw [HXX.out, HYY.out, if_pos hn0]; exact ⟨rfl, rfl⟩
              obtain ⟨rfl, rfl⟩ := hx
              subst hn0
              go_wp2_with fail
              go_ret2
              exact ⟨rfl, rfl⟩
            · obtain ⟨F, hF⟩ : ∃ F, F = (l.drop (1 + g)).take n := ⟨_, rfl⟩
              have hFd : AllD F := by rw [hF, HN.out]; exact take_run _
              have hFl : F.length = n := by rw [hF, List.length_take, List.length_drop]; omega
              have hFat : ∀ j (h : j < n), ∃ h2 : g + 1 + j < s.size, ∃ h3 : j < F.length, s[g + 1 + j] = F[j] := by
                intro j h
                refine ⟨by omega, by omega, ?_⟩
                have h1 := at_some s (g + 1 + j) (by omega)
                have h2 : F[j]? = l[g + 1 + j]? := by rw [hF, List.getElem?_take, if_pos h, List.getElem?_drop, Nat.add_comm 1 g]
                rw [← HLS.out, ← h2, List.getElem?_eq_getElem (by omega)] at h1
                exact (Option.some.inj h1).symm
              have hres : X1 = (if nb = true then -expL 4398046511104 F else expL 4398046511104 F) ∧ X2 = 1 + g + n := by
                rw [HXX.out, HYY.out, if_neg hn0, ← hF, HNB.out]
                exact ⟨by simp only [decide_eq_true_eq], rfl⟩
              have HRES := Lib.hid hres
              have HF := Lib.hid hF
              have HFAT := Lib.hid hFat
              clear hres hF hFat
              have hnI : (((n : Nat) : Int) == 0) = false := by rw [beq_eq_false_iff_ne]; omega
              have hgnI : (g : Int) + 1 + n ≤ s.size := by omega
              go_wp2_with fail
              go_loop [7, 8] (fun ev iv => ∃ j : Nat, j ≤ n ∧ ev = .int .i64 (expL 4398046511104 (F.take j)) ∧ iv = .int .i64 ((g : Int) + 1 + j)) (fun _ iv => s.size - (intOf iv).toNat)
              case atStart => exact ⟨0, by omega, rfl, by simp⟩
              case round =>
                obtain ⟨j, hj, rfl, rfl⟩ := hrel
                by_cases hjn : j < n
                · obtain ⟨h2, h3, h4⟩ := HFAT.out j hjn
                  have hst := expL_step 4398046511104 F j h3
                  obtain ⟨x0, x1⟩ := expL_bound 4398046511104 (by omega) (F.take j) (hFd.take j)
                  have hcd := hFd F[j] (List.getElem_mem _)
                  obtain ⟨c, hcc⟩ : ∃ c, c = F[j].toNat := ⟨_, rfl⟩
                  rw [← hcc] at hst hcd
                  have hcI : ((s[g + 1 + j].toNat : Nat) : Int) = (c : Int) := by rw [h4, ← hcc]
                  have HST := Lib.hid hst
                  clear hst hcc h4
                  generalize expL 4398046511104 (F.take j) = x at *
                  have hwr : ((c : Int) - 48) % 256 = (c : Int) - 48 := by omega
                  go_wp2_with fail
                  go_round
                  case rel => exact ⟨j + 1, by omega, by rw [HST.out], by go_num⟩
                  case measure => simp [intOf]; omega
                · have hjn2 : j = n := by omega
                  subst hjn2
                  have htk : F.take j = F := List.take_of_length_le (by omega)
                  obtain ⟨x0, x1⟩ := expL_bound 4398046511104 (by omega) F hFd
                  rw [htk]
                  generalize expL 4398046511104 F = x at *
                  obtain ⟨r1, r2⟩ := HRES.out
                  cases nb
                  · have r1' : X1 = x := by rw [r1]; simp only [Bool.false_eq_true, if_false]
                    have HR1 := Lib.hid r1'; have HR2 := Lib.hid r2
                    clear r1 r2 r1'
                    go_wp2_with fail
                    go_ret2
                    exact ⟨by rw [HR1.out, HR2.out]; simp; omega, rfl⟩
                  · have r1' : X1 = -x := by rw [r1]; simp only [if_true]
                    have HR1 := Lib.hid r1'; have HR2 := Lib.hid r2
                    clear r1 r2 r1'
                    go_wp2_with fail
                    go_ret2
                    exact ⟨by rw [HR1.out, HR2.out]; simp; omega, rfl⟩

end Go.Proofs.YteophaobcebppaaGreatDoor.dg

namespace Go.Proofs.YteophaobcebppaaGreatDoor.dg
open Go.RowKit
set_option linter.unusedVariables false

theorem results_tmp4 {fn : Func} {t u v x : Tmp} (h : fn.results = #[.tmp t, .tmp u, .tmp v, .tmp x]) (tmps : Array Value) (P : Program) (w : World) :
    (results fn tmps).run P w = .ok (.tuple #[tmps.getD t undef, tmps.getD u undef, tmps.getD v undef, tmps.getD x undef]) w := by
  simp [results, h]

theorem sgnA_drop (l : List UInt8) (a k : Nat) : sgnA (l.drop a) k = sgnA l (a + k) := by
  unfold sgnA; rw [List.getElem?_drop]
theorem expo_drop (far : Int) (l : List UInt8) (a : Nat) : expo far (l.drop a) 0 = expo far l a := by
  unfold expo
  simp only [List.getElem?_drop, sgnA_drop, List.drop_drop, Nat.add_zero, Nat.zero_add]
  have e1 : a + (1 + sgnA l (a + 1)) = a + 1 + sgnA l (a + 1) := by omega
  rw [e1]
  have e2 : ∀ n, 1 + sgnA l (a + 1) + n - 0 = a + 1 + sgnA l (a + 1) + n - a := fun n => by omega
  simp only [e2]

theorem expo_bound2 (l : List UInt8) (a : Nat) (h : a ≤ l.length) : -4398046511104 ≤ (expo 4398046511104 l a).1 ∧ (expo 4398046511104 l a).1 ≤ 4398046511104 ∧ a + (expo 4398046511104 l a).2 ≤ l.length := by
  unfold expo
  split
  · rename_i h1
    have hlt : a < l.length := by
      rcases Nat.lt_or_ge a l.length with b | b
      · exact b
      · rw [List.getElem?_eq_none_iff.2 b] at h1; simp at h1
    have hs := sgn_in l (a + 1) (by omega)
    have hr := run_in l (a + 1 + sgnA l (a + 1)) hs
    simp only []
    split
    · exact ⟨by decide, by decide, by simp; omega⟩
    · obtain ⟨h0, h1⟩ := expL_bound 4398046511104 (by omega) _ (take_run (l.drop (a + 1 + sgnA l (a + 1))))
      generalize expL 4398046511104 _ = e at *
      simp only []
      refine ⟨?_, ?_, by omega⟩
      · split <;> omega
      · split <;> omega
  · exact ⟨by decide, by decide, by simp; omega⟩

/-- what Figure tells: is - ahead, the digits, the point, how many bytes. -/
def figR (l : List UInt8) : Bool × List UInt8 × Int × Nat :=
  if figD l = [] then (false, [], 0, 0) else
  (decide (l[0]? = some 45), figD l, figN l + (expo 4398046511104 l (figE l)).1, figE l + (expo 4398046511104 l (figE l)).2)

set_option maxHeartbeats 3200000 in
set_option maxRecDepth 100000 in
theorem rfigure_any (s : ByteArray) (l : List UInt8) (hls : l = s.data.toList) (w : World) (hl : s.size ≤ 1073741823) :
    Calls Tryz.prog 32 #[.string s] w fun e w' => ∃ db : ByteArray, db.data.toList = (figR l).2.1 ∧ e = .returned (.tuple #[.bool (figR l).1, .string db, .int .i64 (figR l).2.2.1, .int .i64 (figR l).2.2.2]) ∧ w = w' := by
  have hll := ba_list s
  rw [← hls] at hll
  have HLS := Lib.hid hls
  obtain ⟨out, hout⟩ : ∃ out, out = figR l := ⟨_, rfl⟩
  rw [← hout]
  have HOUT := Lib.hid hout
  clear hout hls
  have a0s := sgn_in l 0 (by omega)
  have a0b := sgn_le l 0
  obtain ⟨ng, hng⟩ : ∃ ng : Bool, ng = decide (l[0]? = some 45) := ⟨_, rfl⟩
  obtain ⟨gb, hgb⟩ : ∃ gb : Bool, gb = decide (sgnA l 0 = 1) := ⟨_, rfl⟩
  have HNG := Lib.hid hng; have HGB := Lib.hid hgb
  clear hng hgb
  go_enter Tryz.func32, Tryz.ntmps32
  go_upto_region 2 with (fail)
  go_cut [7] (fun tv wx => w = wx ∧ tv = .bool ng)
  case first =>
    as_aux_lemma =>
    by_cases hlt : 0 < s.size
    · have e1 := at_bool HLS.out hlt (c := 45) 45 rfl
      have e2 : (((s[0].toNat : Nat) : Int) == 45) = ng := by rw [HNG.out]; exact e1
      clear e1
      go_wp2_with fail
      go_meet
      exact ⟨rfl, by first | rfl | rw [e2]⟩
    · have n1 := at_off HLS.out hlt (c := 45)
      have he : ng = false := by rw [HNG.out]; exact decide_eq_false n1
      have HE := Lib.hid he
      clear n1 he
      go_wp2_with fail
      go_meet
      exact ⟨rfl, by rw [HE.out]⟩
  case rest =>
    obtain ⟨rfl, rfl⟩ := hcut
    go_upto_region 3 with (fail)
    go_cut [32] (fun tv wx => w = wx ∧ tv = .bool gb)
    case first =>
      as_aux_lemma =>
      cases ng
      · have n45 : ¬ l[0]? = some 45 := of_decide_eq_false HNG.out.symm
        by_cases hlt : 0 < s.size
        · by_cases h43 : ((s[0].toNat : Nat) : Int) = 43
          · have e1 := at_isI HLS.out hlt (c := 43) 43 rfl h43
            have he : gb = true := by rw [HGB.out]; unfold sgnA; rw [if_pos (Or.inl e1)]; rfl
            have HE := Lib.hid he
            clear he e1 n45
            go_wp2_with fail
            go_meet
            exact ⟨rfl, by rw [HE.out] <;> simp [h43]⟩
          · have n1 := at_notI HLS.out hlt (c := 43) 43 rfl h43
            have he : gb = false := by rw [HGB.out]; unfold sgnA; rw [if_neg (by rintro (a | a); exact n1 a; exact n45 a)]; rfl
            have HE := Lib.hid he
            clear he n1 n45
            go_wp2_with fail
            go_meet
            exact ⟨rfl, by rw [HE.out] <;> simp [h43]⟩
        · have n1 := at_off HLS.out hlt (c := 43)
          have he : gb = false := by rw [HGB.out]; unfold sgnA; rw [if_neg (by rintro (a | a); exact n1 a; exact n45 a)]; rfl
          have HE := Lib.hid he
          clear he n1 n45
          go_wp2_with fail
          go_meet
          exact ⟨rfl, by rw [HE.out]⟩
      · have e45 : l[0]? = some 45 := of_decide_eq_true HNG.out.symm
        have he : gb = true := by rw [HGB.out]; unfold sgnA; rw [if_pos (Or.inr e45)]; rfl
        have HE := Lib.hid he
        clear he e45
        go_wp2_with fail
        go_meet
        exact ⟨rfl, by rw [HE.out]⟩
    case rest =>
      obtain ⟨rfl, rfl⟩ := hcut
      go_upto_if 32 with (fail)
      go_cut [6] (fun kv wx => w = wx ∧ kv = .int .i64 (sgnA l 0 : Nat))
      case first =>
        cases gb
        · have hg0 : sgnA l 0 = 0 := by have h1 : ¬ sgnA l 0 = 1 := of_decide_eq_false HGB.out.symm; omega
          have HE := Lib.hid hg0
          clear hg0
          go_wp2_with fail
          go_meet
          exact ⟨rfl, by rw [HE.out]; rfl⟩
        · have hg1 : sgnA l 0 = 1 := of_decide_eq_true HGB.out.symm
          have HE := Lib.hid hg1
          clear hg1
          go_wp2_with fail
          go_meet
          exact ⟨rfl, by rw [HE.out]; rfl⟩
      case rest =>
        obtain ⟨rfl, rfl⟩ := hcut
        have hout := HOUT.out
        unfold figR at hout
        rw [← HNG.out] at hout
        obtain ⟨fE, fD, fA, fN⟩ := fig_facts l
        clear HOUT HGB
        have hN : figN l = runL (l.drop (sgnA l 0)) := rfl
        have hAd : figA l = sgnA l 0 + figN l := rfl
        have hNin := run_in l (sgnA l 0) (by omega)
        rw [← hN] at hNin
        have hM : figM l = runL (l.drop (figA l + 1)) := rfl
        have hDd : figD l = (l.drop (sgnA l 0)).take (figN l) ++ (if figDot l then (l.drop (figA l + 1)).take (figM l) else []) := rfl
        have hEd : figE l = if figDot l then figA l + 1 + figM l else figA l := rfl
        have hDot : figDot l = decide (l[figA l]? = some 46 ∧ 0 < figN l + figM l) := rfl
        generalize figDot l = dot at *
        generalize figN l = N at *
        generalize figA l = a1 at *
        generalize figM l = M at *
        generalize figD l = D at *
        generalize figE l = E at *
        generalize sgnA l 0 = a0 at *
        have HN := Lib.hid hN
        have HOUT := Lib.hid hout
        clear hN hout
        have hNI : (a0 : Int) + (N : Int) ≤ (s.size : Int) := by omega
        have hrun := rrun_any s l HLS.out (a0 : Int) w hl (by omega) (by omega)
        rw [Int.toNat_natCast, ← HN.out] at hrun
        have HR := Lib.hid hrun
        clear hrun
        have HDD := Lib.hid hDd; have HED := Lib.hid hEd; have HM := Lib.hid hM; have HDOT := Lib.hid hDot
        clear hDd hEd hM hDot
        subst hAd
        go_wp2_with fail
        refine HR.out.mono ?_
        rintro e w1 ⟨rfl, rfl⟩
        go_upto_region 9 with (fail)
        obtain ⟨d1, hd1⟩ : ∃ d1, d1 = s.extract a0 (a0 + N) := ⟨_, rfl⟩
        rw [← hd1]
        have hd1l : d1.data.toList = (l.drop a0).take N := by
          rw [hd1, HLS.out, ByteArray.data_extract, Array.toList_extract, List.extract_eq_take_drop, Nat.add_sub_cancel_left]
        have hd1s : d1.size = N := by rw [← ba_list, hd1l, List.length_take, List.length_drop]; omega
        have HD1 := Lib.hid hd1l
        clear hd1 hd1l
        go_cut [55] (fun tv wx => w = wx ∧ tv = .bool (decide (l[a0 + N]? = some 46)))
        case first =>
          as_aux_lemma =>
          by_cases hlt : a0 + N < s.size
          · have e1 := at_bool HLS.out hlt (c := 46) 46 rfl
            go_wp2_with fail
            go_meet
            exact ⟨rfl, congrArg Value.bool e1⟩
          · have n1 := at_off HLS.out hlt (c := 46)
            go_wp2_with fail
            go_meet
            exact ⟨rfl, by rw [decide_eq_false n1]⟩
        case rest =>
          obtain ⟨rfl, rfl⟩ := hcut
          go_upto_if 55 with (fail)
          go_cut [6, 9, 11] (fun av dv nv wx => w = wx ∧ av = .int .i64 (E : Nat) ∧ ∃ db : ByteArray, dv = .string db ∧ db.data.toList = D)
          case first =>
            as_aux_lemma =>
            by_cases h46 : l[a0 + N]? = some 46
            · have hlt : a0 + N < l.length := by
                rcases Nat.lt_or_ge (a0 + N) l.length with a | a
                · exact a
                · rw [List.getElem?_eq_none_iff.2 a] at h46; cases h46
              have hMin := run_in l (a0 + N + 1) (by omega)
              rw [← HM.out] at hMin
              have hrun := rrun_any s l HLS.out ((a0 : Int) + N + 1) w hl (by omega) (by omega)
              rw [show ((a0 : Int) + N + 1).toNat = a0 + N + 1 from by omega, ← HM.out] at hrun
              have HR := Lib.hid hrun
              clear hrun
              have hdec : decide (l[a0 + N]? = some 46) = true := decide_eq_true h46
              have H46 := Lib.hid h46
              clear h46
              have hMI : (a0 : Int) + N + 1 + M ≤ s.size := by omega
              go_wp2_with fail
              refine HR.out.mono ?_
              rintro e w1 ⟨rfl, rfl⟩
              by_cases hNM : 0 < N + M
              · have hz : D = (l.drop a0).take N ++ (l.drop (a0 + N + 1)).take M ∧ E = a0 + N + 1 + M := by
                  have h1 := HDOT.out
                  rw [decide_eq_true ⟨H46.out, hNM⟩] at h1
                  have h2 := HDD.out
                  have h3 := HED.out
                  rw [h1] at h2 h3
                  simp only [if_true] at h2 h3
                  exact ⟨h2, h3⟩
                have HZ := Lib.hid hz
                clear hz
                have hNMI : (0 : Int) < (N : Int) + M := by omega
                clear hNM
                go_wp2_with fail
                go_meet
                refine ⟨rfl, by rw [HZ.out.2]; go_num, _, rfl, ?_⟩
                rw [HZ.out.1, ByteArray.data_append, Array.toList_append, HD1.out, HLS.out, ByteArray.data_extract, Array.toList_extract, List.extract_eq_take_drop]
                congr 2
                omega
              · have hz : D = (l.drop a0).take N ∧ E = a0 + N := by
                  have h1 := HDOT.out
                  rw [decide_eq_false (fun a => hNM a.2)] at h1
                  have h2 := HDD.out
                  have h3 := HED.out
                  rw [h1] at h2 h3
                  simp only [Bool.false_eq_true, if_false, List.append_nil] at h2 h3
                  exact ⟨h2, h3⟩
                have HZ := Lib.hid hz
                clear hz
                have hNMI : ¬ (0 : Int) < (N : Int) + M := by omega
                clear hNM
                go_wp2_with fail
                go_meet
                exact ⟨rfl, by rw [HZ.out.2]; rfl, _, rfl, by rw [HZ.out.1, HD1.out]⟩
            · have hz : D = (l.drop a0).take N ∧ E = a0 + N := by
                have h1 := HDOT.out
                rw [decide_eq_false (fun a => h46 a.1)] at h1
                have h2 := HDD.out
                have h3 := HED.out
                rw [h1] at h2 h3
                simp only [Bool.false_eq_true, if_false, List.append_nil] at h2 h3
                exact ⟨h2, h3⟩
              have HZ := Lib.hid hz
              clear hz
              go_wp2_with fail
              go_meet
              exact ⟨rfl, by rw [HZ.out.2]; rfl, _, rfl, by rw [HZ.out.1, HD1.out]⟩
          case rest =>
            obtain ⟨rfl, rfl, db, rfl, hdb⟩ := hcut
            have hdbs : db.size = D.length := by rw [← ba_list, hdb]
            have HDB := Lib.hid hdb
            clear hdb
            clear HDD HED HM HDOT HR hNin hNI HN
            by_cases hD0 : D.length = 0
            · have hb0 : (((D.length : Nat) : Int) == 0) = true := by rw [beq_iff_eq]; omega
              have hout := HOUT.out
              rw [if_pos (List.length_eq_zero_iff.1 hD0)] at hout
              subst hout
              go_wp2_with fail
              refine bodyPost_ret (results_tmp4 rfl _ _ _) rfl ⟨⟨#[]⟩, rfl, rfl, rfl⟩
            · have hb0 : (((D.length : Nat) : Int) == 0) = false := by rw [beq_eq_false_iff_ne]; omega
              have hout := HOUT.out
              rw [if_neg (fun e => hD0 (by rw [e]; rfl))] at hout
              have hexp := rexponent_any (s.extract E s.size) (l.drop E) (by rw [ba_drop, HLS.out]) w (by rw [ByteArray.size_extract]; omega)
              rw [expo_drop] at hexp
              obtain ⟨X1, hX1⟩ : ∃ X1, X1 = (expo 4398046511104 l E).1 := ⟨_, rfl⟩
              obtain ⟨X2, hX2⟩ : ∃ X2, X2 = (expo 4398046511104 l E).2 := ⟨_, rfl⟩
              have hXb := expo_bound2 l E (by omega)
              rw [← hX1, ← hX2] at hexp hout hXb
              obtain ⟨x0, x1, x2⟩ := hXb
              have HEXP := Lib.hid hexp
              clear hexp hX1 hX2 HOUT
              subst hout
              have hEs : E ≤ s.size := by omega
              have hx2I : (E : Int) + (X2 : Int) ≤ s.size := by omega
              go_wp2_with fail
              refine HEXP.out.mono ?_
              rintro e w1 ⟨rfl, rfl⟩
              go_wp2_with fail
              refine bodyPost_ret (results_tmp4 rfl _ _ _) rfl ⟨db, HDB.out, ?_, rfl⟩
              simp

end Go.Proofs.YteophaobcebppaaGreatDoor.dg

namespace Go.Proofs.YteophaobcebppaaGreatDoor.dg
open Go.RowKit
set_option linter.unusedVariables false

/-- what the document's Parse tells. -/
def parseR (l : List UInt8) : Nat × Nat × Nat :=
  if figD l = [] then (0, 0, 31) else
  let x := readP (figD l) (figN l + (expo 4398046511104 l (figE l)).1)
  (if l[0]? = some 45 then x % 2 ^ 63 + 2 ^ 63 else x, figE l + (expo 4398046511104 l (figE l)).2, 0)

theorem figE_pos {l : List UInt8} (h : figD l ≠ []) : 0 < figE l := by
  rcases Nat.eq_zero_or_pos (figE l) with h0 | h0
  · exfalso
    apply h
    unfold figE at h0
    unfold figD
    have hA : figA l = sgnA l 0 + figN l := rfl
    by_cases hd : figDot l = true
    · rw [if_pos hd] at h0; omega
    · rw [if_neg hd] at h0
      have : figN l = 0 := by omega
      rw [if_neg hd, this, List.take_zero]; rfl
  · exact h0

set_option maxHeartbeats 800000 in
theorem rparse_any (s : ByteArray) (w : World) (hl : s.size ≤ 1073741823) :
    Calls Tryz.prog 13 #[.string s] w fun e w' => e = .returned (.tuple #[.float .f64 (parseR s.data.toList).1, .int .i64 (parseR s.data.toList).2.1, .int .i64 (parseR s.data.toList).2.2]) ∧ Below w.heap.size w w' := by
  obtain ⟨l, hls⟩ : ∃ l, l = s.data.toList := ⟨_, rfl⟩
  have hll := ba_list s
  rw [← hls] at hll ⊢
  obtain ⟨out, hout⟩ : ∃ out, out = parseR l := ⟨_, rfl⟩
  rw [← hout]
  unfold parseR at hout
  have hfig := rfigure_any s l hls w hl
  unfold figR at hfig
  obtain ⟨fE, fD, fA, fN⟩ := fig_facts l
  by_cases hD : figD l = []
  · rw [if_pos hD] at hout hfig
    subst hout
    have HF := Lib.hid hfig
    clear hfig hD hls
    go_enter Tryz.func13, Tryz.ntmps13
    go_wp2_with fail
    refine HF.out.mono ?_
    rintro e w1 ⟨db, hdb, rfl, rfl⟩
    go_wp2_with fail
    go_ret3
    exact ⟨rfl, Below.refl _ _⟩
  · rw [if_neg hD] at hout hfig
    have hEp := figE_pos hD
    obtain ⟨x0, x1, x2⟩ := expo_bound2 l (figE l) fE
    generalize (expo 4398046511104 l (figE l)).1 = X1 at *
    generalize (expo 4398046511104 l (figE l)).2 = X2 at *
    obtain ⟨ng, hng⟩ : ∃ ng : Bool, ng = decide (l[0]? = some 45) := ⟨_, rfl⟩
    rw [← hng] at hfig
    have hxB := readP_le (figD l) (figN l + X1)
    rw [INF_val] at hxB
    have hread := fun (db : ByteArray) (ww : World) (h : db.data.toList = figD l) => rread_any db (figN l + X1) ww (by rw [h]; exact fA) (by rw [← ba_list, h]; omega) (by omega) (by omega)
    have hread2 : ∀ (db : ByteArray) (ww : World), db.data.toList = figD l → Calls Tryz.prog 33 #[.string db, .int .i64 (figN l + X1)] ww fun e w' => e = .returned (.int .u64 (readP (figD l) (figN l + X1) : Nat)) ∧ Below ww.heap.size ww w' := fun db ww h => by
      have := hread db ww h; rw [h] at this; exact this
    clear hread
    generalize readP (figD l) (figN l + X1) = x at *
    have HREAD := Lib.hid hread2
    have HOUT := Lib.hid hout
    have HF := Lib.hid hfig
    have HNG := Lib.hid hng
    have hnz : (((figE l + X2 : Nat) : Int) == 0) = false := by rw [beq_eq_false_iff_ne]; omega
    clear hread2 hout hfig hng hls hD fA
    go_enter Tryz.func13, Tryz.ntmps13
    go_wp2_with fail
    refine HF.out.mono ?_
    rintro e w1 ⟨db, hdb, rfl, rfl⟩
    have HDB := Lib.hid hdb
    clear hdb
    generalize figD l = D at *
    generalize figN l = N at *
    generalize figE l = E at *
    go_wp2_with fail
    refine (HREAD.out _ _ HDB.out).mono ?_
    rintro e w2 ⟨rfl, hb2⟩
    cases ng
    · have hneg : ¬ l[0]? = some 45 := of_decide_eq_false HNG.out.symm
      have hout := HOUT.out
      rw [if_neg hneg] at hout
      subst hout
      go_wp2_with fail
      go_ret3
      exact ⟨by simp, hb2⟩
    · have hneg : l[0]? = some 45 := of_decide_eq_true HNG.out.symm
      have hout := HOUT.out
      rw [if_pos hneg] at hout
      have hor : bits .or .u64 (x : Int) 9223372036854775808 = ((x % 2 ^ 63 + 2 ^ 63 : Nat) : Int) := by
        have h := or_hi 63 x 1 (by omega) (by rw [B64_def]; omega) (by rw [B64_def]; omega)
        rw [Nat.mul_one] at h
        have e1 : 2 ^ 63 + x = x % 2 ^ 63 + 2 ^ 63 := by omega
        rw [e1] at h
        exact h
      obtain ⟨y, hy⟩ : ∃ y, y = x % 2 ^ 63 + 2 ^ 63 := ⟨_, rfl⟩
      rw [← hy] at hor hout
      subst hout
      clear hy
      go_wp2_with fail
      go_ret3
      exact ⟨by simp, hb2⟩

end Go.Proofs.YteophaobcebppaaGreatDoor.dg

namespace Go.Proofs.YteophaobcebppaaGreatDoor.dg
set_option linter.unusedVariables false

theorem expL_min (far : Int) (hf : 0 ≤ far) (l : List UInt8) (h : AllD l) : expL far l = min far ((dval l : Nat) : Int) := by
  have key : ∀ (l : List UInt8) (a : Nat), AllD l → l.foldl (fun e c => min far (10 * e + ((c.toNat : Int) - 48))) (min far (a : Int)) = min far ((dvalA a l : Nat) : Int) := by
    intro l
    induction l with
    | nil => intro a _; rw [dvalA_nil]; rfl
    | cons c r ih =>
      intro a hd
      have hc := hd c (List.mem_cons_self ..)
      rw [List.foldl_cons, dvalA_cons, ← ih _ hd.tail]
      congr 1
      have e1 : ((a * 10 + (c.toNat - 48) : Nat) : Int) = 10 * (a : Int) + ((c.toNat : Int) - 48) := by omega
      rw [e1]
      omega
  have := key l 0 h
  unfold expL dval
  rw [← this]
  congr 1
  omega

theorem readP_high {l : List UInt8} {p : Int} (h : 400 + (l.length : Int) < p) : readP l p = if Lib.trimLeftB l 48 = [] then 0 else INF := by
  have := left_len l
  unfold readP
  simp only []
  by_cases hr : Lib.trimLeftB l 48 = []
  · rw [if_pos (Or.inl hr), if_pos hr]
  · rw [if_neg (by rintro (a | a); exact hr a; omega), if_neg hr, if_pos (by omega)]

theorem readP_low {l : List UInt8} {p : Int} (h : p < -400) : readP l p = 0 := by
  have := left_len l
  unfold readP
  simp only []
  by_cases hr : Lib.trimLeftB l 48 = [] ∨ p < -1099511627776
  · rw [if_pos hr]
  · rw [if_neg hr, if_neg (by omega), if_pos (by omega)]

theorem expo_pair (l : List UInt8) (a : Nat) : (expo 1099511627776 l a).2 = (expo 4398046511104 l a).2 ∧
    ((expo 1099511627776 l a).1 = (expo 4398046511104 l a).1 ∨
     ((expo 1099511627776 l a).1 = 1099511627776 ∧ 1099511627776 ≤ (expo 4398046511104 l a).1) ∨
     ((expo 1099511627776 l a).1 = -1099511627776 ∧ (expo 4398046511104 l a).1 ≤ -1099511627776)) := by
  unfold expo
  by_cases h1 : l[a]? = some 69 ∨ l[a]? = some 101
  · simp only [if_pos h1]
    by_cases h2 : runL (l.drop (a + 1 + sgnA l (a + 1))) = 0
    · simp [h2]
    · simp only [if_neg h2]
      have hd := take_run (l.drop (a + 1 + sgnA l (a + 1)))
      rw [expL_min _ (by omega) _ hd, expL_min _ (by omega) _ hd]
      generalize dval _ = v
      refine ⟨trivial, ?_⟩
      split <;> omega
  · simp [h1]

theorem parse_same (l : List UInt8) (hl : l.length ≤ 1073741823) : parseR l = parseP l := by
  unfold parseR parseP
  obtain ⟨fE, fD, fA, fN⟩ := fig_facts l
  by_cases hD : figD l = []
  · rw [if_pos hD, if_pos hD]
  · rw [if_neg hD, if_neg hD]
    obtain ⟨h2, h1⟩ := expo_pair l (figE l)
    have hx : readP (figD l) (figN l + (expo 4398046511104 l (figE l)).1) = readP (figD l) (figN l + (expo 1099511627776 l (figE l)).1) := by
      rcases h1 with h | ⟨h, h'⟩ | ⟨h, h'⟩
      · rw [h]
      · rw [readP_high (by omega), readP_high (by omega)]
      · rw [readP_low (by omega), readP_low (by omega)]
    simp only [hx, h2]

end Go.Proofs.YteophaobcebppaaGreatDoor.dg
