/- The walk of digits.Parse. Conditions: the text can be held. -/
import Derived.Test.YteophaobcebppaaGreatDoorRun
import Derived.Test.YteophaobcebppaaGreatDoorRead
set_option linter.unusedSimpArgs false
namespace Go.Proofs.YteophaobcebppaaGreatDoor.dg
open Go.RowKit
set_option linter.unusedVariables false

/-- how long the sign at a place is. -/
def sgnA (l : List UInt8) (k : Nat) : Nat := if l[k]? = some 43 ∨ l[k]? = some 45 then 1 else 0
/-- the digits of an exponent, cut off at a bound. -/
def expL (far : Int) (l : List UInt8) : Int := l.foldl (fun e c => min far (10 * e + ((c.toNat : Int) - 48))) 0
/-- the exponent at a place, and how many bytes it has. -/
def expo (far : Int) (l : List UInt8) (a : Nat) : Int × Nat :=
  if l[a]? = some 69 ∨ l[a]? = some 101 then
    let k := a + 1 + sgnA l (a + 1)
    let n := runL (l.drop k)
    if n = 0 then (0, 0) else
    let e := expL far ((l.drop k).take n)
    (if l[a + 1]? = some 45 then -e else e, k + n - a)
  else (0, 0)
/-- the whole digits, those behind the dot, all digits, where they end. -/
def figN (l : List UInt8) : Nat := runL (l.drop (sgnA l 0))
def figA (l : List UInt8) : Nat := sgnA l 0 + figN l
def figM (l : List UInt8) : Nat := runL (l.drop (figA l + 1))
def figDot (l : List UInt8) : Bool := decide (l[figA l]? = some 46 ∧ 0 < figN l + figM l)
def figD (l : List UInt8) : List UInt8 := (l.drop (sgnA l 0)).take (figN l) ++ (if figDot l then (l.drop (figA l + 1)).take (figM l) else [])
def figE (l : List UInt8) : Nat := if figDot l then figA l + 1 + figM l else figA l

/-- what Parse tells: the bits, how many bytes, the error. -/
def parseP (l : List UInt8) : Nat × Nat × Nat :=
  if figD l = [] then (0, 0, 31) else
  let x := readP (figD l) (figN l + (expo 1099511627776 l (figE l)).1)
  (if l[0]? = some 45 then x % 2 ^ 63 + 2 ^ 63 else x, figE l + (expo 1099511627776 l (figE l)).2, 0)

theorem at_some (s : ByteArray) (k : Nat) (h : k < s.size) : s.data.toList[k]? = some s[k] := by
  rw [Array.getElem?_toList]; exact Array.getElem?_eq_getElem h
theorem at_none (s : ByteArray) (k : Nat) (h : s.size ≤ k) : s.data.toList[k]? = none := by
  rw [Array.getElem?_toList]; exact Array.getElem?_eq_none h
theorem at_is {s : ByteArray} {k : Nat} (h : k < s.size) (c : UInt8) : s.data.toList[k]? = some c ↔ s[k].toNat = c.toNat := by
  rw [at_some s k h, Option.some.injEq, UInt8.toNat_inj]
theorem at_isI {s : ByteArray} {l : List UInt8} (hs : l = s.data.toList) {k : Nat} (h : k < s.size) {c : UInt8} (d : Nat) (hd : c.toNat = d) (e : ((s[k].toNat : Nat) : Int) = d) : l[k]? = some c := by
  rw [hs]; exact (at_is h c).2 (by omega)
theorem at_notI {s : ByteArray} {l : List UInt8} (hs : l = s.data.toList) {k : Nat} (h : k < s.size) {c : UInt8} (d : Nat) (hd : c.toNat = d) (e : ¬ ((s[k].toNat : Nat) : Int) = d) : ¬ l[k]? = some c := by
  rw [hs]; exact fun a => e (by have := (at_is h c).1 a; omega)
theorem at_off {s : ByteArray} {l : List UInt8} (hs : l = s.data.toList) {k : Nat} (h : ¬ k < s.size) {c : UInt8} : ¬ l[k]? = some c := by
  rw [hs, at_none s k (by omega)]; simp
theorem at_bool {s : ByteArray} {l : List UInt8} (hs : l = s.data.toList) {k : Nat} (h : k < s.size) {c : UInt8} (d : Nat) (hd : c.toNat = d) : (((s[k].toNat : Nat) : Int) == (d : Int)) = decide (l[k]? = some c) := by
  by_cases e : ((s[k].toNat : Nat) : Int) = d
  · rw [decide_eq_true (at_isI hs h d hd e), beq_iff_eq]; exact e
  · rw [decide_eq_false (at_notI hs h d hd e), beq_eq_false_iff_ne]; exact e
theorem run_at (s : ByteArray) (l : List UInt8) (hs : l = s.data.toList) (k : Int) (w : World) (hl : s.size ≤ 140737488355328) (h0 : 0 ≤ k) (h1 : k ≤ s.size) :
    Calls Tryz.prog 27 #[.string s, .int .i64 k] w fun e w' => e = .returned (.int .i64 (runL (l.drop k.toNat))) ∧ w = w' := by
  rw [hs]; exact run_any s k w (by unfold maxLen; omega) h0 h1
theorem run_in (l : List UInt8) (k : Nat) (h : k ≤ l.length) : k + runL (l.drop k) ≤ l.length := by
  have := runL_le (l.drop k); rw [List.length_drop] at this; omega
theorem sgn_bool1 {l : List UInt8} {k : Nat} (h : l[k]? = some 43 ∨ l[k]? = some 45) : Value.bool true = Value.bool (decide (sgnA l k = 1)) := by
  unfold sgnA; rw [if_pos h]; rfl
theorem sgn_bool0 {l : List UInt8} {k : Nat} (h1 : ¬ l[k]? = some 43) (h2 : ¬ l[k]? = some 45) : Value.bool false = Value.bool (decide (sgnA l k = 1)) := by
  unfold sgnA; rw [if_neg (by rintro (a | a); exact h1 a; exact h2 a)]; rfl
theorem sgn_le (l : List UInt8) (k : Nat) : sgnA l k ≤ 1 := by unfold sgnA; split <;> omega
theorem sgn_in (l : List UInt8) (k : Nat) (h : k ≤ l.length) : k + sgnA l k ≤ l.length := by
  unfold sgnA
  split
  · rename_i h2
    have : l[k]? ≠ none := by rcases h2 with a | a <;> rw [a] <;> simp
    have : ¬ l.length ≤ k := fun e => this (List.getElem?_eq_none_iff.2 e)
    omega
  · exact h

theorem take_run (l : List UInt8) : AllD (l.take (runL l)) := by
  have h1 : l.take (runL l) = l.takeWhile isDB := by
    unfold runL; exact (List.prefix_iff_eq_take.1 (List.takeWhile_prefix _)).symm
  rw [h1]
  intro c hc
  have := List.all_eq_true.1 (List.all_takeWhile (p := isDB) (l := l)) c hc
  unfold isDB isD at this
  simp only [Bool.and_eq_true, decide_eq_true_eq] at this
  omega
theorem fig_facts (l : List UInt8) : figE l ≤ l.length ∧ (figD l).length ≤ l.length ∧ AllD (figD l) ∧ figN l ≤ l.length := by
  have h1 := sgn_in l 0 (by omega)
  have h2 := run_in l (sgnA l 0) (by omega)
  have hN : figN l = runL (l.drop (sgnA l 0)) := rfl
  rw [← hN] at h2
  have hA : figA l = sgnA l 0 + figN l := rfl
  have hM : figM l = runL (l.drop (figA l + 1)) := rfl
  have t1 : AllD ((l.drop (sgnA l 0)).take (figN l)) := take_run _
  have t2 : AllD ((l.drop (figA l + 1)).take (figM l)) := take_run _
  unfold figE figD
  by_cases hd : figDot l = true
  · have hlt : figA l < l.length := by
      unfold figDot at hd
      have := (of_decide_eq_true hd).1
      rcases Nat.lt_or_ge (figA l) l.length with a | a
      · exact a
      · rw [List.getElem?_eq_none_iff.2 a] at this; cases this
    have h3 := run_in l (figA l + 1) (by omega)
    rw [← hM] at h3
    rw [if_pos hd, if_pos hd]
    refine ⟨by omega, ?_, t1.append t2, by omega⟩
    rw [List.length_append, List.length_take, List.length_take, List.length_drop, List.length_drop]; omega
  · rw [if_neg hd, if_neg hd, List.append_nil]
    refine ⟨by omega, ?_, t1, by omega⟩
    rw [List.length_take, List.length_drop]; omega
theorem expL_step (far : Int) (l : List UInt8) (j : Nat) (h : j < l.length) : expL far (l.take (j + 1)) = min far (10 * expL far (l.take j) + ((l[j].toNat : Int) - 48)) := by
  unfold expL
  rw [List.take_succ_eq_append_getElem h, List.foldl_append]
  rfl
theorem expL_bound (far : Int) (hf : 0 ≤ far) (l : List UInt8) (h : AllD l) : 0 ≤ expL far l ∧ expL far l ≤ far := by
  unfold expL
  have key : ∀ (l : List UInt8) (e : Int), AllD l → 0 ≤ e → e ≤ far → 0 ≤ l.foldl (fun e c => min far (10 * e + ((c.toNat : Int) - 48))) e ∧ l.foldl (fun e c => min far (10 * e + ((c.toNat : Int) - 48))) e ≤ far := by
    intro l
    induction l with
    | nil => intro e _ h0 h1; exact ⟨h0, h1⟩
    | cons c r ih =>
      intro e hd h0 h1
      have hc := hd c (List.mem_cons_self ..)
      rw [List.foldl_cons]
      exact ih _ hd.tail (by omega) (by omega)
  exact key l 0 h (by omega) hf
theorem expo_bound (l : List UInt8) (a : Nat) : -1099511627776 ≤ (expo 1099511627776 l a).1 ∧ (expo 1099511627776 l a).1 ≤ 1099511627776 := by
  unfold expo
  split
  · simp only []
    split
    · exact ⟨by decide, by decide⟩
    · obtain ⟨h0, h1⟩ := expL_bound 1099511627776 (by omega) _ (take_run (l.drop (a + 1 + sgnA l (a + 1))))
      generalize expL 1099511627776 _ = e at *
      simp only []
      split <;> omega
  · exact ⟨by decide, by decide⟩
theorem readP_le (l : List UInt8) (p : Int) : readP l p ≤ INF := by
  unfold readP
  simp only []
  split
  · exact Nat.zero_le _
  · split
    · exact Nat.le_refl _
    · split
      · exact Nat.zero_le _
      · exact rd_le _ _ (Nat.pow_pos (by omega))
theorem or32 (c : UInt8) : (bits .or .u8 (c.toNat : Int) 32 == 101) = decide (c = 69 ∨ c = 101) := by
  have key : ∀ n : Fin 256, (bits .or .u8 ((n.val : Nat) : Int) 32 == 101) = decide (n.val = 69 ∨ n.val = 101) := by decide +kernel
  have := key ⟨c.toNat, c.toNat_lt⟩
  rw [this]
  congr 1
  rw [← UInt8.toNat_inj, ← UInt8.toNat_inj]; rfl

theorem conv_bytes (s : ByteArray) (w : World) : ∃ (b cap : Nat) (W : World), (convert 9 52 (.string s)).run Tryz.prog w = .ok (.slice (some ⟨b, 0, none⟩) s.size cap) W ∧ Below w.heap.size w W ∧
    ∀ j (h : j < s.data.toList.length), W.cell? ⟨b, j, none⟩ = some (.int .u8 ((s.data.toList[j].toNat : Nat) : Int)) := by
  refine ⟨_, _, _, Lib.run_convert_string_bytes (u := .string) w 9 52 5 s (by kernel_rfl) (by kernel_rfl) (by kernel_rfl), Lib.bytesWorld_below _ _ _, ?_⟩
  intro j h
  have hj : j < s.size := by rw [← ba_list]; exact h
  rw [Lib.bytesWorld_cell w _ s j hj]
  simp [List.getD, hj]

set_option maxHeartbeats 3200000 in
set_option maxRecDepth 100000 in
theorem parse_any (s : ByteArray) (w : World) (hl : s.size ≤ 140737488355328) :
    Calls Tryz.prog 10 #[.string s] w fun e w' => e = .returned (.tuple #[.float .f64 (parseP s.data.toList).1, .int .i64 (parseP s.data.toList).2.1, .int .i64 (parseP s.data.toList).2.2]) ∧ Below w.heap.size w w' := by
  obtain ⟨l, hls⟩ : ∃ l, l = s.data.toList := ⟨_, rfl⟩
  obtain ⟨out, hout⟩ : ∃ out, out = parseP l := ⟨_, rfl⟩
  rw [← hls, ← hout]
  have hll := ba_list s
  have HLS := Lib.hid hls
  have HOUT := Lib.hid hout
  clear hout hls
  have a0s := sgn_in l 0 (by omega)
  have a0b := sgn_le l 0
  go_enter Tryz.func10, Tryz.ntmps10
  go_upto_region 3 with (fail)
  go_cut [32] (fun tv wx => w = wx ∧ tv = .bool (decide (sgnA l 0 = 1)))
  case first =>
    as_aux_lemma =>
    --[A
    by_cases hlt : 0 < s.size
    · by_cases h43 : ((s[0].toNat : Nat) : Int) = 43
      · have e1 := at_isI HLS.out hlt (c := 43) 43 rfl h43
        go_wp2_with fail
        go_meet
        exact ⟨rfl, sgn_bool1 (Or.inl e1)⟩
      · have n1 := at_notI HLS.out hlt (c := 43) 43 rfl h43
        by_cases h45 : ((s[0].toNat : Nat) : Int) = 45
        · have e1 := at_isI HLS.out hlt (c := 45) 45 rfl h45
          go_wp2_with fail
          go_meet
          exact ⟨rfl, sgn_bool1 (Or.inr e1)⟩
        · have n2 := at_notI HLS.out hlt (c := 45) 45 rfl h45
          go_wp2_with fail
          go_meet
          exact ⟨rfl, by rw [← sgn_bool0 n1 n2]; simp [h43, h45]⟩
    · have n1 := at_off HLS.out hlt (c := 43)
      have n2 := at_off HLS.out hlt (c := 45)
      go_wp2_with fail
      go_meet
      exact ⟨rfl, sgn_bool0 n1 n2⟩
    --]A
  case rest =>
    obtain ⟨rfl, rfl⟩ := hcut
    go_upto_if 32 with (fail)
    go_cut [5, 6] (fun av nv wx => w = wx ∧ av = .int .i64 (sgnA l 0 : Nat) ∧ nv = .bool (decide (l[0]? = some 45)))
    case first =>
      as_aux_lemma =>
      --[B
      by_cases hsg : sgnA l 0 = 1
      · have hlt : 0 < s.size := by rw [← hll, ← HLS.out]; omega
        go_wp2_with fail
        go_meet
        exact ⟨rfl, by rw [hsg]; rfl, congrArg Value.bool (at_bool HLS.out hlt (c := 45) 45 rfl)⟩
      · have hneg : ¬ l[0]? = some 45 := fun e => hsg (by unfold sgnA; rw [if_pos (Or.inr e)])
        have hz : sgnA l 0 = 0 := by omega
        go_wp2_with fail
        go_meet
        exact ⟨rfl, by rw [hz]; rfl, by rw [decide_eq_false hneg]⟩
      --]B
    case rest =>
      obtain ⟨rfl, rfl, rfl⟩ := hcut
      have hout := HOUT.out
      unfold parseP at hout
      obtain ⟨fE, fD, fA, fN⟩ := fig_facts l
      clear HOUT
      have hN : figN l = runL (l.drop (sgnA l 0)) := rfl
      have hAd : figA l = sgnA l 0 + figN l := rfl
      have hNin := run_in l (sgnA l 0) (by omega)
      rw [← hN] at hNin
      have hM : figM l = runL (l.drop (figA l + 1)) := rfl
      have hDd : figD l = (l.drop (sgnA l 0)).take (figN l) ++ (if figDot l then (l.drop (figA l + 1)).take (figM l) else []) := rfl
      have hEd : figE l = if figDot l then figA l + 1 + figM l else figA l := rfl
      have hDot : figDot l = decide (l[figA l]? = some 46 ∧ 0 < figN l + figM l) := rfl
      generalize figDot l = dot at *
      generalize figN l = N at *
      generalize figA l = a1 at *
      generalize figM l = M at *
      generalize figD l = D at *
      generalize figE l = E at *
      generalize sgnA l 0 = a0 at *
      have HN := Lib.hid hN
      have HOUT := Lib.hid hout
      clear hN hout
      have hll2 : l.length = s.size := by rw [HLS.out]; exact hll
      have hNI : (a0 : Int) + (N : Int) ≤ (s.size : Int) := by omega
      have hrun := run_at s l HLS.out (a0 : Int) w hl (by omega) (by omega)
      rw [Int.toNat_natCast, ← HN.out] at hrun
      have HR := Lib.hid hrun
      clear hrun
      have HDD := Lib.hid hDd; have HED := Lib.hid hEd; have HM := Lib.hid hM; have HDOT := Lib.hid hDot
      clear hDd hEd hM hDot
      obtain ⟨ng, hng⟩ : ∃ ng : Bool, ng = decide (l[0]? = some 45) := ⟨_, rfl⟩
      rw [← hng]
      have HNG := Lib.hid hng
      clear hng
      subst hAd
      go_wp2_with fail
      refine HR.out.mono ?_
      rintro e w1 ⟨rfl, rfl⟩
      go_upto_region 9 with (fail)
      obtain ⟨d1, hd1⟩ : ∃ d1, d1 = s.extract a0 (a0 + N) := ⟨_, rfl⟩
      rw [← hd1]
      have hd1l : d1.data.toList = (l.drop a0).take N := by
        rw [hd1, HLS.out, ByteArray.data_extract, Array.toList_extract, List.extract_eq_take_drop, Nat.add_sub_cancel_left]
      have hd1s : d1.size = N := by rw [← ba_list, hd1l, List.length_take, List.length_drop]; omega
      have HD1 := Lib.hid hd1l
      clear hd1 hd1l
      go_cut [60] (fun tv wx => w = wx ∧ tv = .bool (decide (l[a0 + N]? = some 46)))
      case first =>
        as_aux_lemma =>
        --[C
        by_cases hlt : a0 + N < s.size
        · have e1 := at_bool HLS.out hlt (c := 46) 46 rfl
          go_wp2_with fail
          go_meet
          exact ⟨rfl, congrArg Value.bool e1⟩
        · have n1 := at_off HLS.out hlt (c := 46)
          go_wp2_with fail
          go_meet
          exact ⟨rfl, by rw [decide_eq_false n1]⟩
        --]C
      case rest =>
        obtain ⟨rfl, rfl⟩ := hcut
        go_upto_if 60 with (fail)
        go_cut [5, 8, 9] (fun av dv nv wx => w = wx ∧ av = .int .i64 (E : Nat) ∧ ∃ db : ByteArray, dv = .string db ∧ db.data.toList = D)
        case first =>
          as_aux_lemma =>
          --[D
          by_cases h46 : l[a0 + N]? = some 46
          · have hlt : a0 + N < l.length := by
              rcases Nat.lt_or_ge (a0 + N) l.length with a | a
              · exact a
              · rw [List.getElem?_eq_none_iff.2 a] at h46; cases h46
            have hMin := run_in l (a0 + N + 1) (by omega)
            rw [← HM.out] at hMin
            have hrun := run_at s l HLS.out ((a0 : Int) + N + 1) w hl (by omega) (by omega)
            rw [show ((a0 : Int) + N + 1).toNat = a0 + N + 1 from by omega, ← HM.out] at hrun
            have HR := Lib.hid hrun
            clear hrun
            have hdec : decide (l[a0 + N]? = some 46) = true := decide_eq_true h46
            have H46 := Lib.hid h46
            clear h46
            have hMI : (a0 : Int) + N + 1 + M ≤ s.size := by omega
            go_wp2_with fail
            refine HR.out.mono ?_
            rintro e w1 ⟨rfl, rfl⟩
            by_cases hNM : 0 < N + M
            · have hz : D = (l.drop a0).take N ++ (l.drop (a0 + N + 1)).take M ∧ E = a0 + N + 1 + M := by
                have h1 := HDOT.out
                rw [decide_eq_true ⟨H46.out, hNM⟩] at h1
                have h2 := HDD.out
                have h3 := HED.out
                rw [h1] at h2 h3
                simp only [if_true] at h2 h3
                exact ⟨h2, h3⟩
              have HZ := Lib.hid hz
              clear hz
              have hNMI : (0 : Int) < (N : Int) + M := by omega
              clear hNM
              go_wp2_with fail
              go_meet
              refine ⟨rfl, by rw [HZ.out.2]; go_num, _, rfl, ?_⟩
              rw [HZ.out.1, ByteArray.data_append, Array.toList_append, HD1.out, HLS.out, ByteArray.data_extract, Array.toList_extract, List.extract_eq_take_drop]
              congr 2
              omega
            · have hz : D = (l.drop a0).take N ∧ E = a0 + N := by
                have h1 := HDOT.out
                rw [decide_eq_false (fun a => hNM a.2)] at h1
                have h2 := HDD.out
                have h3 := HED.out
                rw [h1] at h2 h3
                simp only [Bool.false_eq_true, if_false, List.append_nil] at h2 h3
                exact ⟨h2, h3⟩
              have HZ := Lib.hid hz
              clear hz
              have hNMI : ¬ (0 : Int) < (N : Int) + M := by omega
              clear hNM
              go_wp2_with fail
              go_meet
              exact ⟨rfl, by rw [HZ.out.2]; rfl, _, rfl, by rw [HZ.out.1, HD1.out]⟩
          · have hz : D = (l.drop a0).take N ∧ E = a0 + N := by
              have h1 := HDOT.out
              rw [decide_eq_false (fun a => h46 a.1)] at h1
              have h2 := HDD.out
              have h3 := HED.out
              rw [h1] at h2 h3
              simp only [Bool.false_eq_true, if_false, List.append_nil] at h2 h3
              exact ⟨h2, h3⟩
            have HZ := Lib.hid hz
            clear hz
            go_wp2_with fail
            go_meet
            exact ⟨rfl, by rw [HZ.out.2]; rfl, _, rfl, by rw [HZ.out.1, HD1.out]⟩
          --]D
        case rest =>
          obtain ⟨rfl, rfl, db, rfl, hdb⟩ := hcut
          have hdbs : db.size = D.length := by rw [← ba_list, hdb]
          have HDB := Lib.hid hdb
          clear hdb
          clear HDD HED HM HDOT HD1 hd1s HR hNin hNI HN
          by_cases hD0 : D.length = 0
          · have hemp := ba_empty (t := db) (by omega)
            have hout := HOUT.out
            rw [if_pos (List.length_eq_zero_iff.1 hD0)] at hout
            subst hout
            go_wp2_with fail
            go_ret3
            exact ⟨rfl, Below.refl _ _⟩
          · have hemp := ba_full (t := db) (by omega)
            have hout := HOUT.out
            rw [if_neg (fun e => hD0 (by rw [e]; rfl))] at hout
            obtain ⟨X1, hX1⟩ : ∃ X1, X1 = (expo 1099511627776 l E).1 := ⟨_, rfl⟩
            obtain ⟨X2, hX2⟩ : ∃ X2, X2 = (expo 1099511627776 l E).2 := ⟨_, rfl⟩
            simp only [← hX1, ← hX2] at hout
            have HOUT2 := Lib.hid hout
            have HX1 := Lib.hid hX1
            have HX2 := Lib.hid hX2
            clear hout hX1 hX2 HOUT
            go_upto_region 17 with (fail)
            obtain ⟨eb, heb⟩ : ∃ eb : Bool, eb = decide (l[E]? = some 69 ∨ l[E]? = some 101) := ⟨_, rfl⟩
            have HEB := Lib.hid heb
            clear heb
            go_cut [96] (fun tv wx => w = wx ∧ tv = .bool eb)
            case first =>
              as_aux_lemma =>
              --[E
              by_cases hlt : E < s.size
              · have e1 := or32 s[E]
                go_wp2_with fail
                go_meet
                refine ⟨rfl, congrArg Value.bool ?_⟩
                rw [HEB.out]
                refine Eq.trans (Bool.decide_or _ _).symm (decide_eq_decide.2 ?_)
                rw [HLS.out, at_some s E hlt, Option.some.injEq, Option.some.injEq]
              · have n1 := at_off HLS.out hlt (c := 69)
                have n2 := at_off HLS.out hlt (c := 101)
                go_wp2_with fail
                go_meet
                exact ⟨rfl, by rw [HEB.out, decide_eq_false (by rintro (a | a); exact n1 a; exact n2 a)]⟩
              --]E
            case rest =>
              obtain ⟨rfl, rfl⟩ := hcut
              go_upto_if 96 with (fail)
              go_cut [5, 10, 11, 12, 13, 15] (fun av pv _ _ _ _ wx => ∃ w1, w1 = wx ∧ Below w.heap.size w w1 ∧ av = .int .i64 ((E : Int) + (X2 : Int)) ∧ pv = .int .i64 ((N : Int) + X1))
              case first =>
                cases eb
                rotate_left
                · skip
                  as_aux_lemma =>
                  --[F
                  have hex : l[E]? = some 69 ∨ l[E]? = some 101 := of_decide_eq_true HEB.out.symm
                  have hElt : E < s.size := by
                    rcases Nat.lt_or_ge E s.size with a | a
                    · exact a
                    · rw [HLS.out, at_none s E a] at hex; simp at hex
                  have hxx := HX1.out
                  have hyy := HX2.out
                  unfold expo at hxx hyy
                  rw [if_pos hex] at hxx hyy
                  simp only [] at hxx hyy
                  have hsl := sgn_le l (E + 1)
                  have hsi := sgn_in l (E + 1) (by omega)
                  obtain ⟨g, hg⟩ : ∃ g, g = sgnA l (E + 1) := ⟨_, rfl⟩
                  rw [← hg] at hxx hyy hsl hsi
                  obtain ⟨n, hn⟩ : ∃ n, n = runL (l.drop (E + 1 + g)) := ⟨_, rfl⟩
                  rw [← hn] at hxx hyy
                  have hni := run_in l (E + 1 + g) hsi
                  rw [← hn] at hni
                  have hrun := run_at s l HLS.out ((E : Int) + 1 + g) w hl (by omega) (by omega)
                  rw [show ((E : Int) + 1 + g).toNat = E + 1 + g from by omega, ← hn] at hrun
                  obtain ⟨gb, hgb⟩ : ∃ gb : Bool, gb = decide (g = 1) := ⟨_, rfl⟩
                  have HEX := Lib.hid hex; have HXX := Lib.hid hxx; have HYY := Lib.hid hyy; have HG := Lib.hid hg; have HN := Lib.hid hn; have HRUN := Lib.hid hrun; have HGB := Lib.hid hgb
                  clear hex hxx hyy hg hn hrun hgb HX1 HX2 HOUT2
                  have hni2 : (E : Int) + 1 + g + n ≤ s.size := by omega
                  go_upto_region 19 with (fail)
                  go_cut [114] (fun tv wx => w = wx ∧ tv = .bool gb)
                  case first =>
                    as_aux_lemma =>
                    --[H
                    by_cases hlt : E + 1 < s.size
                    · by_cases h43 : ((s[E + 1].toNat : Nat) : Int) = 43
                      · have e1 := at_isI HLS.out hlt (c := 43) 43 rfl h43
                        go_wp2_with fail
                        go_meet
                        exact ⟨rfl, by rw [HGB.out, HG.out]; exact sgn_bool1 (Or.inl e1)⟩
                      · have n1 := at_notI HLS.out hlt (c := 43) 43 rfl h43
                        by_cases h45 : ((s[E + 1].toNat : Nat) : Int) = 45
                        · have e1 := at_isI HLS.out hlt (c := 45) 45 rfl h45
                          go_wp2_with fail
                          go_meet
                          exact ⟨rfl, by rw [HGB.out, HG.out]; exact sgn_bool1 (Or.inr e1)⟩
                        · have n2 := at_notI HLS.out hlt (c := 45) 45 rfl h45
                          go_wp2_with fail
                          go_meet
                          exact ⟨rfl, by rw [HGB.out, HG.out, ← sgn_bool0 n1 n2]; simp [h43, h45]⟩
                    · have n1 := at_off HLS.out hlt (c := 43)
                      have n2 := at_off HLS.out hlt (c := 45)
                      go_wp2_with fail
                      go_meet
                      exact ⟨rfl, by rw [HGB.out, HG.out]; exact sgn_bool0 n1 n2⟩
                    --]H
                  case rest =>
                    obtain ⟨rfl, rfl⟩ := hcut
                    go_upto_if 114 with (fail)
                    go_cut [11] (fun kv wx => w = wx ∧ kv = .int .i64 ((E : Int) + 1 + (g : Int)))
                    case first =>
                      cases gb
                      · have hg1 : ¬ g = 1 := of_decide_eq_false HGB.out.symm
                        have hg0 : g = 0 := by omega
                        go_wp2_with fail
                        go_meet
                        exact ⟨rfl, by rw [hg0]; go_num⟩
                      · have hg1 : g = 1 := of_decide_eq_true HGB.out.symm
                        go_wp2_with fail
                        go_meet
                        exact ⟨rfl, by rw [hg1]; go_num⟩
                    case rest =>
                      obtain ⟨rfl, rfl⟩ := hcut
                      go_wp2_with fail
                      refine HRUN.out.mono ?_
                      rintro e w1 ⟨rfl, rfl⟩
                      by_cases hn0 : 0 < n
                      · obtain ⟨eb2, heb2⟩ : ∃ eb2, eb2 = s.extract (E + 1 + g) (E + 1 + g + n) := ⟨_, rfl⟩
                        obtain ⟨F, hF⟩ : ∃ F, F = (l.drop (E + 1 + g)).take n := ⟨_, rfl⟩
                        have heF : eb2.data.toList = F := by
                          rw [heb2, hF, HLS.out, ByteArray.data_extract, Array.toList_extract, List.extract_eq_take_drop, Nat.add_sub_cancel_left]
                        have hFd : AllD F := by rw [hF, HN.out]; exact take_run _
                        have hFl : F.length = n := by rw [hF, List.length_take, List.length_drop]; omega
                        have hes : eb2.size = n := by rw [← ba_list, heF, hFl]
                        obtain ⟨b, cap, W, hcv, hbW, hcell⟩ := conv_bytes eb2 w
                        rw [hes, heb2] at hcv
                        rw [heF] at hcell
                        have HBW := Lib.hid hbW; have HCELL := Lib.hid hcell; have HF := Lib.hid hF
                        clear hbW hcell heb2 heF hes hF eb2
                        go_wp2_with fail
                        go_loop [13, 15, 130] (fun ev _ iv => ∃ j : Nat, j ≤ n ∧ ev = .int .i64 (expL 1099511627776 (F.take j)) ∧ iv = .int .i64 j) (fun _ _ iv => n - (intOf iv).toNat)
                        case atStart => exact ⟨0, by omega, rfl, rfl⟩
                        case round =>
                          obtain ⟨j, hj, rfl, rfl⟩ := hrel
                          by_cases hjn : j < n
                          · have hc := HCELL.out j (by omega)
                            have hst := expL_step 1099511627776 F j (by omega)
                            obtain ⟨x0, x1⟩ := expL_bound 1099511627776 (by omega) (F.take j) (hFd.take j)
                            have hcd := hFd F[j] (List.getElem_mem _)
                            obtain ⟨c, hcc⟩ : ∃ c, c = F[j].toNat := ⟨_, rfl⟩
                            rw [← hcc] at hc hst hcd
                            have HST := Lib.hid hst
                            clear hst hcc
                            generalize expL 1099511627776 (F.take j) = x at *
                            have hwr : ((c : Int) - 48) % 256 = (c : Int) - 48 := by omega
                            go_wp2_with fail
                            go_round
                            case rel => exact ⟨j + 1, by omega, by rw [HST.out], by go_num⟩
                            case measure => simp [intOf]; omega
                          · have hjn2 : j = n := by omega
                            subst hjn2
                            have hEg : E + g < s.size := by omega
                            have hnb : (((s[E + g].toNat : Nat) : Int) == 45) = decide (l[E + 1]? = some 45) := by
                              have h0 := at_bool HLS.out hEg (c := 45) 45 rfl
                              refine Eq.trans h0 (decide_eq_decide.2 ?_)
                              have hg := HG.out
                              unfold sgnA at hg
                              split at hg
                              · rw [hg]
                              · rename_i h1
                                rw [hg, Nat.add_zero]
                                constructor
                                · intro e; have := HEX.out; rw [e] at this; exact absurd this (by decide)
                                · intro e; exact absurd (Or.inr e) h1
                            obtain ⟨nb, hnb2⟩ : ∃ nb : Bool, nb = decide (l[E + 1]? = some 45) := ⟨_, rfl⟩
                            rw [← hnb2] at hnb
                            have hres : X1 = (if nb = true then -expL 1099511627776 F else expL 1099511627776 F) ∧ X2 = 1 + g + j := by
                              rw [HXX.out, HYY.out, if_neg (by omega), ← HF.out, hnb2]
                              refine ⟨by simp only [decide_eq_true_eq], ?_⟩
                              show E + 1 + g + j - E = _
                              omega
                            obtain ⟨x0, x1⟩ := expL_bound 1099511627776 (by omega) F hFd
                            have htk : F.take j = F := List.take_of_length_le (by omega)
                            rw [htk]
                            generalize expL 1099511627776 F = x at *
                            have HRES := Lib.hid hres
                            clear hres hnb2 htk
                            cases nb
                            · go_wp2_with fail
                              go_meet
                              refine ⟨W, rfl, HBW.out, ?_, ?_⟩
                              · rw [HRES.out.2]; go_num
                              · rw [HRES.out.1]; simp only [Bool.false_eq_true, if_false]
                            · go_wp2_with fail
                              go_meet
                              refine ⟨W, rfl, HBW.out, ?_, ?_⟩
                              · rw [HRES.out.2]; go_num
                              · rw [HRES.out.1]; simp only [if_true]
                      · have hx : X1 = 0 ∧ X2 = 0 := by
                          rw [HXX.out, HYY.out, if_pos (by omega)]; exact ⟨rfl, rfl⟩
                        have HX := Lib.hid hx
                        clear hx
                        go_wp2_with fail
                        go_meet
                        exact ⟨_, rfl, Below.refl _ _, by rw [HX.out.2]; go_num, by rw [HX.out.1]; go_num⟩
                  --]F
                · skip
                  as_aux_lemma =>
                  --[G
                  have hex : ¬ (l[E]? = some 69 ∨ l[E]? = some 101) := of_decide_eq_false HEB.out.symm
                  have hx : X1 = 0 ∧ X2 = 0 := by
                    rw [HX1.out, HX2.out]; unfold expo; rw [if_neg hex]; exact ⟨rfl, rfl⟩
                  have HX := Lib.hid hx
                  clear hex hx
                  go_wp2_with fail
                  go_meet
                  exact ⟨_, rfl, Below.refl _ _, by rw [HX.out.2]; go_num, by rw [HX.out.1]; go_num⟩
                  --]G
              case rest =>
                obtain ⟨w1, rfl, hb1, rfl, rfl⟩ := hcut
                obtain ⟨x0, x1⟩ := expo_bound l E
                rw [← HX1.out] at x0 x1
                have hread := read_any db ((N : Int) + X1) w1 (by rw [HDB.out]; exact fA) (by omega) (by omega) (by omega)
                rw [HDB.out] at hread
                have hout := HOUT2.out
                have hxB : readP D ((N : Int) + X1) < 18446744073709551616 := by have := readP_le D ((N : Int) + X1); rw [INF_val] at this; omega
                generalize readP D ((N : Int) + X1) = x at *
                have HREAD := Lib.hid hread
                have HO := Lib.hid hout
                clear hread hout HOUT2 HX1 HX2 x0 x1
                go_wp2_with fail
                refine HREAD.out.mono ?_
                rintro e w2 ⟨rfl, hb2⟩
                cases ng
                · have hng : ¬ l[0]? = some 45 := of_decide_eq_false HNG.out.symm
                  have hout := HO.out
                  rw [if_neg hng] at hout
                  subst hout
                  go_wp2_with fail
                  go_ret3
                  exact ⟨by simp, Below.seq hb1 hb2⟩
                · have hng : l[0]? = some 45 := of_decide_eq_true HNG.out.symm
                  have hout := HO.out
                  rw [if_pos hng] at hout
                  subst hout
                  have hcs := copysign_any x 13830554455654793216 w2 (by rw [B64_def]; omega) (by rw [B64_def]; omega)
                  rw [show 2 ^ 63 * (13830554455654793216 / 2 ^ 63) + x % 2 ^ 63 = x % 2 ^ 63 + 2 ^ 63 from by omega] at hcs
                  obtain ⟨y, hy⟩ : ∃ y, y = x % 2 ^ 63 + 2 ^ 63 := ⟨_, rfl⟩
                  rw [← hy] at hcs
                  have HY := Lib.hid hy
                  clear hy
                  have HCS := Lib.hid hcs
                  clear hcs
                  go_wp2_with fail
                  refine HCS.out.mono ?_
                  rintro e w3 ⟨rfl, rfl⟩
                  go_wp2_with fail
                  go_ret3
                  exact ⟨by have h := HY.out; simp; omega, Below.seq hb1 hb2⟩

end Go.Proofs.YteophaobcebppaaGreatDoor.dg
