/- The walk of strconv.FormatUint at base ten. Conditions: the table of powers of ten reads as it is laid. -/
import Derived.Test.YteophaobcebppaaGreatDoorNatA
import Derived.Test.YteophaobcebppaaGreatDoorShelf
import Derived.Lib.ItoaMem
import Derived.Lib.SmallJoins
import Derived.Lib.AppendIntMem
set_option linter.unusedSimpArgs false
namespace Go.Proofs.YteophaobcebppaaGreatDoor.dg
open Go.RowKit Go.Sort Go.Lib
set_option linter.unusedVariables false

/-- the library's table of the powers of ten reads as it is laid. -/
def Tab (w : World) : Prop := Lib.TabIs Tryz.prog w "internal/strconv.uint64pow10" .u64 Lib.pow10Tab

theorem Tab.below {w w' : World} (h : Tab w) (hb : Below w.heap.size w w') : Tab w' := Lib.tabBelow_of_tabIs h w' hb

set_option maxHeartbeats 6400000 in
set_option maxRecDepth 100000 in
theorem fmtin_any (u : Nat) (w : World) (hu64 : u < 18446744073709551616) (htab : Tab w) :
    Calls Tryz.prog 81 #[.int .u64 u, .int .i64 10] w fun e w' => e = .returned (.string ⟨(Lib.decDigits u).toArray⟩) ∧ Below w.heap.size w w' := by
  by_cases hs : u < 100
  · have hsI : ((u : Nat) : Int) < 100 := by omega
    go_enter Tryz.func81, Tryz.ntmps81
    go_wp2_with fail
    refine (Tryz.internal_strconv_small u hs _).mono ?_
    rintro e w' ⟨rfl, rfl⟩
    go_wp2_with fail
    go_ret
    exact ⟨rfl, Below.refl _ _⟩
  · have hu1 : 1 ≤ u := by omega
    have hnd20 : Lib.nDigits u ≤ 20 := by have := Lib.numDigits_eq u hu1 hu64; split at this <;> omega
    have hal : Tryz.prog.arrayLen 141 = 24 := by kernel_rfl
    have hsl1 : ∀ W, (Instr.sliceAt 141 (.pointer (some ⟨w.heap.size, 0, none⟩)) none (some (.int .i64 (Lib.nDigits u : Int))) none).run Tryz.prog W = .ok (.slice (some ⟨w.heap.size, 0, none⟩) (Lib.nDigits u) 24) W := fun W => by
      rw [run_sliceAt_array_h W 141 ⟨w.heap.size, 0, none⟩ (by simp [Program.arrayLen, Program.elem, Tryz.underlying141]) .i64 (Lib.nDigits u : Int) (by omega) (by rw [hal]; omega)]
      go_simp
      first | done | omega | rfl
    have hH0 : Holds (fun (b : UInt8) => Value.int .u8 (b.toNat : Int)) (w.alloc (.cells Lib.zeros24 141)) w.heap.size 0 (Array.replicate (Lib.nDigits u) 0) := Lib.holds_zero0 w 141 (Lib.nDigits u) (by omega)
    have hfmt := Tryz.internal_strconv_formatBase10 w.heap.size 0 24 u (Array.replicate (Lib.nDigits u) 0) (w.alloc (.cells Lib.zeros24 141)) hH0 (by rw [Array.size_replicate]; exact Lib.lt_pow_nDigits u) hu64 (by rw [Array.size_replicate]; omega)
    rw [Array.size_replicate] at hfmt
    have HH0 := Lib.hid hH0
    clear hH0 hal
    have hsI : ¬ ((u : Nat) : Int) < 100 := by omega
    go_enter Tryz.func81, Tryz.ntmps81
    go_wp2_with fail
    refine (Tryz.internal_strconv_numDigits u hu1 hu64 _ (Lib.tabIs_alloc htab _)).mono ?_
    rintro e w' ⟨rfl, rfl⟩
    go_wp2_with fail
    refine hfmt.mono ?_
    rintro e w' ⟨rfl, k, v', dk, rfl, hF⟩
    have hcv : (convert 52 9 (.slice (some ⟨w.heap.size, 0, none⟩) (Lib.nDigits u) 24)).run Tryz.prog ((putRow (fun (b : UInt8) => Value.int .u8 (b.toNat : Int)) (w.alloc (.cells Lib.zeros24 141)) w.heap.size 0 dk).drewN k) = .ok (.string ⟨(Lib.decDigits u).toArray⟩) ((putRow (fun (b : UInt8) => Value.int .u8 (b.toNat : Int)) (w.alloc (.cells Lib.zeros24 141)) w.heap.size 0 dk).drewN k) := by
      have h := run_convert_bytes_back (P := Tryz.prog) ((putRow (fun (b : UInt8) => Value.int .u8 (b.toNat : Int)) (w.alloc (.cells Lib.zeros24 141)) w.heap.size 0 dk).drewN k) 52 9 5 ⟨w.heap.size, 0, none⟩ 24 (Lib.decDigits u) Tryz.underlying52 Tryz.underlying5 Tryz.underlying9 (fun j hj => by
        rw [Lib.row_is_numeral hF j hj, Lib.add_plain, World.cell?_drewN]
        exact cell?_putRow (fun (b : UInt8) => Value.int .u8 (b.toNat : Int)) _ w.heap.size 0 _ dk HH0.out (by rw [hF.size, Array.size_replicate]) j (by rw [hF.size]; rw [Lib.decDigits_length] at hj; exact hj))
      rw [Lib.decDigits_length] at h
      exact h
    obtain ⟨wf, hwf⟩ : ∃ wf, wf = ((putRow (fun (b : UInt8) => Value.int .u8 (b.toNat : Int)) (w.alloc (.cells Lib.zeros24 141)) w.heap.size 0 dk).drewN k) := ⟨_, rfl⟩
    have hbf : Below w.heap.size w wf := by
      rw [hwf]
      obtain ⟨os, e⟩ := Lib.fin_at w (.cells Lib.zeros24 141) dk k 0
      rw [e]
      exact Lib.below_grow w.heap.size w (Nat.le_refl _) k os
    have HWF := Lib.hid hwf
    rw [← hwf] at hcv ⊢
    clear hwf
    go_wp2_with fail
    go_ret
    exact ⟨rfl, hbf⟩

theorem formatUint_any (u : Nat) (w : World) (hu64 : u < 18446744073709551616) (htab : Tab w) :
    Calls Tryz.prog 41 #[.int .u64 u, .int .i64 10] w fun e w' => e = .returned (.string ⟨(Lib.decDigits u).toArray⟩) ∧ Below w.heap.size w w' := by
  go_enter Tryz.func41, Tryz.ntmps41
  go_wp2_with fail
  refine (fmtin_any u _ hu64 htab).mono ?_
  rintro e w' ⟨rfl, hb⟩
  go_wp2_with fail
  go_ret
  exact ⟨rfl, hb⟩

end Go.Proofs.YteophaobcebppaaGreatDoor.dg
