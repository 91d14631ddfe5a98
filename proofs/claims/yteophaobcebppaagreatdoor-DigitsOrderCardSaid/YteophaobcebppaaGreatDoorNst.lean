/- The walks of digits.Nearest, galleyref03.Nearest and Same. Conditions: the text can be held. -/
import Derived.Test.YteophaobcebppaaGreatDoorRefK
set_option linter.unusedSimpArgs false
namespace Go.Proofs.YteophaobcebppaaGreatDoor.dg
open Go.RowKit
set_option linter.unusedVariables false

/-- what Nearest tells: the bits, the error. -/
def nearP (l : List UInt8) (p : Int) : Nat × Nat := if l ≠ [] ∧ AllD l then (readP l p, 0) else (0, 1)

theorem runL_all {l : List UInt8} : runL l = l.length ↔ AllD l := by
  constructor
  · intro h
    have := take_run l
    rw [h, List.take_length] at this
    exact this
  · intro h
    unfold runL
    have key : ∀ l : List UInt8, AllD l → l.takeWhile isDB = l := by
      intro l
      induction l with
      | nil => intro _; rfl
      | cons c r ih => intro h; rw [List.takeWhile_cons, if_pos ((isDB_iff c).2 (h c (List.mem_cons_self ..))), ih h.tail]
    rw [key l h]

set_option maxHeartbeats 400000 in
theorem nearest_any (s : ByteArray) (p : Int) (w : World) (hl : s.size ≤ 140737488355328) (hp0 : -9223372036854775808 ≤ p) (hp1 : p ≤ 9223372036854775807) :
    Calls Tryz.prog 19 #[.string s, .int .i64 p] w fun e w' => e = .returned (.tuple #[.float .f64 (nearP s.data.toList p).1, .int .i64 (nearP s.data.toList p).2]) ∧ Below w.heap.size w w' := by
  have hsz := ba_list s
  obtain ⟨out, hout⟩ : ∃ out, out = nearP s.data.toList p := ⟨_, rfl⟩
  rw [← hout]
  unfold nearP at hout
  by_cases h0 : s.size = 0
  · have hemp := ba_empty h0
    have hn : s.data.toList = [] := List.length_eq_zero_iff.1 (by omega)
    rw [if_neg (fun a => a.1 hn)] at hout
    subst hout
    clear hn
    go_enter Tryz.func19, Tryz.ntmps19
    go_wp2_with fail
    go_ret2
    exact ⟨rfl, Below.refl _ _⟩
  · have hemp := ba_full h0
    have hne : s.data.toList ≠ [] := fun e => h0 (by rw [e] at hsz; simp at hsz; omega)
    have hrun := run_at s s.data.toList rfl 0 w hl (by omega) (by omega)
    rw [show (0 : Int).toNat = 0 from rfl, List.drop_zero] at hrun
    by_cases hd : AllD s.data.toList
    · rw [if_pos ⟨hne, hd⟩] at hout
      have hr := runL_all.2 hd
      rw [hr, hsz] at hrun
      have hread := read_any s p w hd (by omega) hp0 hp1
      have hread1 := congrArg Prod.fst hout
      have hread2 := congrArg Prod.snd hout
      simp only [] at hread1 hread2
      rw [← hread1] at hread
      have HR := Lib.hid hrun
      have HD := Lib.hid hread
      have H2 := Lib.hid hread2
      clear hrun hread hout hread1 hread2 hr hne hd
      go_enter Tryz.func19, Tryz.ntmps19
      go_wp2_with fail
      refine HR.out.mono ?_
      rintro e w1 ⟨rfl, rfl⟩
      go_wp2_with fail
      refine HD.out.mono ?_
      rintro e w2 ⟨rfl, hb⟩
      go_wp2_with fail
      go_ret2
      exact ⟨by rw [H2.out]; rfl, hb⟩
    · rw [if_neg (fun a => hd a.2)] at hout
      subst hout
      have hr : ¬ runL s.data.toList = s.size := fun e => hd (runL_all.1 (by rw [e, hsz]))
      generalize runL s.data.toList = r at *
      have hrb : (((r : Nat) : Int) != (s.size : Int)) = true := by rw [bne_iff_ne]; omega
      have HR := Lib.hid hrun
      clear hrun hne hd
      go_enter Tryz.func19, Tryz.ntmps19
      go_wp2_with fail
      refine HR.out.mono ?_
      rintro e w1 ⟨rfl, rfl⟩
      go_wp2_with fail
      go_ret2
      exact ⟨rfl, Below.refl _ _⟩

set_option maxHeartbeats 400000 in
theorem rnst_any (s : ByteArray) (p : Int) (w : World) (hl : s.size ≤ 1073741823) (hp0 : -9223372036854775808 ≤ p) (hp1 : p ≤ 9223372036854775807) :
    Calls Tryz.prog 20 #[.string s, .int .i64 p] w fun e w' => e = .returned (.tuple #[.float .f64 (nearP s.data.toList p).1, .int .i64 (nearP s.data.toList p).2]) ∧ Below w.heap.size w w' := by
  have hdig := rdigits_any s w (by omega)
  obtain ⟨out, hout⟩ : ∃ out, out = nearP s.data.toList p := ⟨_, rfl⟩
  rw [← hout]
  unfold nearP at hout
  by_cases hd : s.data.toList ≠ [] ∧ AllD s.data.toList
  · rw [decide_eq_true hd] at hdig
    rw [if_pos hd] at hout
    have hread := rread_any s p w hd.2 (by omega) hp0 hp1
    have hread1 := congrArg Prod.fst hout
    have hread2 := congrArg Prod.snd hout
    simp only [] at hread1 hread2
    rw [← hread1] at hread
    have HG := Lib.hid hdig
    have HD := Lib.hid hread
    have H2 := Lib.hid hread2
    clear hdig hread hout hread1 hread2 hd
    go_enter Tryz.func20, Tryz.ntmps20
    go_wp2_with fail
    refine HG.out.mono ?_
    rintro e w1 ⟨rfl, rfl⟩
    go_wp2_with fail
    refine HD.out.mono ?_
    rintro e w2 ⟨rfl, hb⟩
    go_wp2_with fail
    go_ret2
    exact ⟨by rw [H2.out]; simp, hb⟩
  · rw [decide_eq_false hd] at hdig
    rw [if_neg hd] at hout
    subst hout
    have HG := Lib.hid hdig
    clear hdig hd
    go_enter Tryz.func20, Tryz.ntmps20
    go_wp2_with fail
    refine HG.out.mono ?_
    rintro e w1 ⟨rfl, rfl⟩
    go_wp2_with fail
    go_ret2
    exact ⟨rfl, Below.refl _ _⟩

/-- the same number at itself. -/
theorem same_any (x : Nat) (w : World) (hx : x < B64) :
    Calls Tryz.prog 14 #[.float .f64 x, .float .f64 x] w fun e w' => e = .returned (.bool true) ∧ w = w' := by
  go_enter Tryz.func14, Tryz.ntmps14
  go_wp2_with fail
  go_ret
  exact ⟨rfl, rfl⟩

end Go.Proofs.YteophaobcebppaaGreatDoor.dg
