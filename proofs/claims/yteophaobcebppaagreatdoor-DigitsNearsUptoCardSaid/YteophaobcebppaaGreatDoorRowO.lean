/- The rows' arguments, opened. -/
import Derived.Test.YteophaobcebppaaGreatDoorLaid
import Derived.Test.YteophaobcebppaaGreatDoorLawP
import Derived.Test.YteophaobcebppaaGreatDoorTab
import Derived.Deep.Strs
import Derived.Deep.Slices
import Derived.Carry
set_option linter.unusedSimpArgs false
set_option linter.unusedVariables false
namespace Go.Proofs.YteophaobcebppaaGreatDoor.dg
open Go.ChangeShapes Go.WideShapes Go.ChangeAt Go.RowKit

theorem cells_str : Tryz.prog.cellsOf 9 = 1 := by kernel_rfl
theorem cells_int : Tryz.prog.cellsOf 3 = 1 := by kernel_rfl
theorem laid_out : laidOutB Tryz.prog = true := by kernel_rfl

theorem bulk_mem {H : Type} {d : DataW H} {l : List (DataW H)} (h : d ∈ l) : Rows.uptoBulk d ≤ Rows.uptoBulkAll l := by
  induction l with
  | nil => cases h
  | cons a r ih =>
    rw [Rows.uptoBulkAll]
    rcases List.mem_cons.1 h with rfl | h
    · omega
    · have := ih h; omega

set_option maxRecDepth 100000 in
/-- a list of texts, opened. -/
theorem open_S {H : Type} {enc : TypeId × Value → H} {W : World} {base : Nat} {v : Value} {d : DataW H} {p : List MemPlace} (hv : Value.okWide Tryz.prog W .any base 30 v) (h : DataW.Trod enc Tryz.prog W 0 (fun _ => true) true 30 v d p) :
    ∃ n S, RdS W v n S ∧ ∀ k, k < n → (S k).size ≤ Rows.uptoBulk d := by
  obtain ⟨a0, len, cap, rfl⟩ := okWide_slice Tryz.underlying30 hv
  obtain ⟨fuel, hf⟩ := h
  rcases Go.Deep.open_strs Tryz.underlying30 Tryz.underlying9 cells_str hf with ⟨hcs, hx⟩ | ⟨a, len', cap', m, Sx, hcs, _, hl, hm, hmm, hx, hcell⟩
  · simp [Value.cells] at hcs
    obtain ⟨rfl, rfl, rfl⟩ := hcs
    exact ⟨0, fun _ => ByteArray.empty, ⟨none, 0, rfl, by omega, fun h => absurd h (by omega)⟩, fun k hk => absurd hk (by omega)⟩
  · simp [Value.cells] at hcs
    obtain ⟨rfl, rfl, rfl⟩ := hcs
    simp only [if_true] at hmm
    subst hmm
    simp only [Prod.mk.injEq] at hx
    obtain ⟨rfl, rfl⟩ := hx
    refine ⟨len, Sx, ⟨some a, _, rfl, by simp only [maxLen] at hm; omega, fun h0 => ?_⟩, fun k hk => ?_⟩
    · obtain ⟨b, off, spot⟩ := a
      have hspot : spot = none := by simpa [Addr.add] using World.cell?_spot (hcell 0 (by omega)).1
      subst hspot
      exact ⟨b, off, rfl, fun k hk => by rw [← Go.Lib.add_plain]; exact (hcell k (by omega)).1⟩
    · have h1 : DataW.lit (.string (Sx k).data.toList) ∈ (List.range len).map fun i => (DataW.lit (.string (Sx i).data.toList) : DataW H) := List.mem_map.2 ⟨k, List.mem_range.2 hk, rfl⟩
      have h2 := bulk_mem h1
      have h3 : Rows.uptoBulk (DataW.lit (.string (Sx k).data.toList) : DataW H) = (Sx k).data.toList.length + 1 := by rw [Rows.uptoBulk]
      rw [h3, ba_list] at h2
      rw [Rows.uptoBulk]
      omega

end Go.Proofs.YteophaobcebppaaGreatDoor.dg
