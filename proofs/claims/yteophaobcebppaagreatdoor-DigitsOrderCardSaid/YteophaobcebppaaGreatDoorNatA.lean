/- The walks of large.Of, trim, Cmp: whole numbers in memory as slices of words. Conditions: none beyond what each says. -/
import Derived.Test.YteophaobcebppaaGreatDoorProg
import Derived.Test.YteophaobcebppaaGreatDoorWords
import Derived.WalkKit
import Derived.WalkLawsBesides
import Derived.WalkSpells
import Derived.BigQuiet
import Derived.Deep.QuietTactic
import Derived.Outline
import Derived.Lib.Hide
set_option linter.unusedSimpArgs false
namespace Go.Proofs.YteophaobcebppaaGreatDoor.dg
open Go.RowKit
set_option linter.unusedVariables false

theorem ret_int {k : IntKind} {a b : Int} (h : a = b) : Ending.returned (.int k a) = .returned (.int k b) := by rw [h]

/-- a slice of uint64 that reads as a list of numbers. -/
def Rd64 (w : World) (v : Value) (l : List Nat) : Prop :=
  ∃ p cap, v = .slice p l.length cap ∧ l.length ≤ cap ∧ cap ≤ maxLen ∧
    (l ≠ [] → ∃ b off, p = some ⟨b, off, none⟩ ∧ ∀ i, i < l.length → w.cell? ⟨b, off + i, none⟩ = some (.int .u64 ((nth l i : Nat) : Int)))

/-- a slice whose row lies at block B or behind. -/
def Fr (B : Nat) (v : Value) : Prop := ∀ p n c, v = .slice (some p) n c → B ≤ p.block
theorem Fr.none (B n c : Nat) : Fr B (.slice none n c) := fun p n c h => by simp at h
theorem Fr.some {B : Nat} {p : Addr} {n c : Nat} (h : B ≤ p.block) : Fr B (.slice (some p) n c) := fun q n' c' e => by
  simp only [Value.slice.injEq, Option.some.injEq] at e
  rw [← e.1]; exact h
theorem Fr.len {B : Nat} {p : Option Addr} {n c n' c' : Nat} (h : Fr B (.slice p n c)) : Fr B (.slice p n' c') := fun q a b e => by
  simp only [Value.slice.injEq] at e
  exact h q n c (by rw [e.1])
theorem Fr.mono {B B' : Nat} {v : Value} (h : Fr B v) (hB : B' ≤ B) : Fr B' v := fun p n c e => Nat.le_trans hB (h p n c e)

theorem Rd64.nil (w : World) : Rd64 w (.slice none 0 0) [] := ⟨none, 0, rfl, by simp, by simp [maxLen], fun h => absurd rfl h⟩

theorem Rd64.below {w w' : World} {v : Value} {l : List Nat} (h : Rd64 w v l) (hb : Below w.heap.size w w') : Rd64 w' v l := by
  obtain ⟨p, cap, rfl, h1, h2, h3⟩ := h
  refine ⟨p, cap, rfl, h1, h2, fun hne => ?_⟩
  obtain ⟨b, off, hp, hc⟩ := h3 hne
  refine ⟨b, off, hp, fun i hi => ?_⟩
  have := hc i hi
  rw [hb.cell (World.block_lt_of_cell? w _ this)]; exact this

theorem Rd64.take {w : World} {p : Option Addr} {cap : Nat} {l : List Nat} (h : Rd64 w (.slice p l.length cap) l) (k : Nat) (hk : k ≤ l.length) : Rd64 w (.slice p k cap) (l.take k) := by
  obtain ⟨p', cap', e, h1, h2, h3⟩ := h
  simp only [Value.slice.injEq] at e
  obtain ⟨rfl, -, rfl⟩ := e
  have hl : (l.take k).length = k := by rw [List.length_take]; omega
  refine ⟨p, cap, by rw [hl], by omega, h2, fun hne => ?_⟩
  obtain ⟨b, off, hp, hc⟩ := h3 (by rintro rfl; simp at hne)
  refine ⟨b, off, hp, fun i hi => ?_⟩
  rw [hc i (by omega), nth_take (by omega)]

theorem of_any (n : Int) (w : World) (h0 : 0 ≤ n) (h1 : n < B64) :
    Calls Tryz.prog 56 #[.int .u64 n] w fun e w' => ∃ v, e = .returned v ∧ Rd64 w' v (words n.toNat) ∧ Below w.heap.size w w' := by
  obtain ⟨m, rfl⟩ := Int.eq_ofNat_of_zero_le h0
  rw [Int.toNat_natCast]
  by_cases hz : m = 0
  · subst hz
    go_enter Tryz.func56, Tryz.ntmps56
    go_wp2
    go_ret
    exact ⟨_, rfl, by rw [words_zero]; exact Rd64.nil _, Below.refl _ _⟩
  · have hb : (((m : Nat) : Int) == 0) = false := by simp; omega
    have HW := Lib.hid (words_one (n := m) (by omega) (by omega))
    go_enter Tryz.func56, Tryz.ntmps56
    go_wp2
    go_ret
    refine ⟨_, rfl, ?_, (Below.refl _ _).alloc (Nat.le_refl _) _⟩
    rw [HW.out]
    refine ⟨_, 1, rfl, by simp, by simp [maxLen], fun _ => ⟨w.heap.size, 0, rfl, fun i hi => ?_⟩⟩
    obtain rfl : i = 0 := by simpa using hi
    rw [World.cell?_alloc_at _ _ _ _ rfl]; rfl

/-- trim: the words of what the list is worth. -/
theorem trim_any (v : Value) (l : List Nat) (w : World) (hs : Small l) (h : Rd64 w v l) :
    Calls Tryz.prog 80 #[v] w fun e w' => ∃ v', e = .returned v' ∧ Rd64 w v' (words (val l)) ∧ (∀ B, Fr B v → Fr B v') ∧ w = w' := by
  obtain ⟨p, cap, rfl, hlc, hcm, hp⟩ := id h
  have hm : l.length ≤ 9223372036854775807 := by simp only [maxLen] at hcm; omega
  have H := Lib.hid h
  clear h
  go_enter Tryz.func80, Tryz.ntmps80
  go_wp2
  go_loop [0] (fun t => ∃ k : Nat, k ≤ l.length ∧ t = .slice p k cap ∧ val (l.take k) = val l) (fun t => match t with | .slice _ n _ => n | _ => 0)
  case atStart => exact ⟨l.length, Nat.le_refl _, rfl, by rw [List.take_length]⟩
  case round =>
    obtain ⟨k, hk, rfl, hv⟩ := hrel
    have HV := Lib.hid hv; clear hv
    have hcap : k ≤ cap := by omega
    by_cases hk0 : k = 0
    · subst hk0
      go_wp2_with fail
      go_ret
      have e0 : val l = 0 := by rw [← HV.out]; rfl
      refine ⟨_, rfl, ?_, fun B hB => hB.len, rfl⟩
      rw [e0, words_zero]
      exact (H.out).take 0 (by omega)
    · obtain ⟨b, off, rfl, hc⟩ := hp (by rintro rfl; simp at hk; omega)
      obtain ⟨j, rfl⟩ : ∃ j, k = j + 1 := ⟨k - 1, by omega⟩
      have hcell := hc j (by omega)
      have HC := Lib.hid hc; clear hc
      by_cases hz : nth l j = 0
      · rw [hz] at hcell
        have HV2 := Lib.hid (val_take_succ (l := l) (k := j) (by omega))
        have HZ := Lib.hid hz; clear hz
        go_wp2_with fail
        go_round
        case rel => exact ⟨j, by omega, rfl, by rw [← HV.out, HV2.out, HZ.out]; simp⟩
        case measure => simp
      · have hb : ((((nth l j : Nat) : Int)) == 0) = false := by simpa using hz
        have HZ := Lib.hid hz; clear hz
        have HT := Lib.hid ((H.out).take (j + 1) (by omega))
        go_wp2_with fail
        go_ret
        refine ⟨_, rfl, ?_, fun B hB => hB.len, rfl⟩
        have hw : words (val l) = l.take (j + 1) := by
          rw [← HV.out]
          refine words_val (hs.take _) (Or.inr ?_)
          have hl : (l.take (j + 1)).length = j + 1 := by rw [List.length_take]; omega
          rw [hl, Nat.add_sub_cancel, nth_take (by omega)]
          exact HZ.out
        rw [hw]
        exact HT.out

end Go.Proofs.YteophaobcebppaaGreatDoor.dg
