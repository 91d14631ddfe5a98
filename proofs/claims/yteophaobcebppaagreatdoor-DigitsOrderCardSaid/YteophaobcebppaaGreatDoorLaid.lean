/- The witness's world: the settled one, the listed variables reading as they are laid. No conditions. -/
import Derived.Test.YteophaobcebppaaGreatDoorCards
import Derived.Test.YteophaobcebppaaGreatDoorTie
import Derived.Test.YteophaobcebppaaGreatDoorFmt
import Derived.ProofKit
import Derived.OpenShut
import Derived.Deep.DeepHandedRow
import Derived.Deep.DeepWitnessRowRef
import Derived.Lib.LaidTab
import Derived.LaidLaws
set_option linter.unusedSimpArgs false
set_option linter.unusedVariables false
namespace Go.Proofs.YteophaobcebppaaGreatDoor.dg
open Go.ChangeShapes Go.WideShapes Go.ChangeAt Go.RowKit

theorem own : ownKnob Tryz.prog.godebug = none := by kernel_rfl
theorem gPow : Tryz.prog.globalNamed "internal/strconv.uint64pow10" = some 1 := by kernel_rfl
theorem gPowType : (Tryz.prog.globals[1]?).map (·.type) = some 154 := by kernel_rfl
theorem cellsPow : Tryz.prog.cellsOf 154 = 20 := by kernel_rfl
theorem cellsU64 : Tryz.prog.cellsOf 27 = 1 := by kernel_rfl

def cells8 (l : List Nat) : Array Value := (l.map fun (z : Nat) => Value.int .u8 (Int.ofNat z)).toArray
def cells64 (l : List Nat) : Array Value := (l.map fun (z : Nat) => Value.int .u64 (Int.ofNat z)).toArray
def tab32 : List Nat := [0, 1, 28, 2, 29, 14, 24, 3, 30, 22, 20, 15, 25, 17, 4, 8, 31, 27, 13, 23, 21, 19, 16, 7, 26, 12, 18, 6, 11, 5, 10, 9]
def tab64 : List Nat := [0, 1, 56, 2, 57, 49, 28, 3, 61, 58, 42, 50, 38, 29, 17, 4, 62, 47, 59, 36, 45, 43, 51, 22, 53, 39, 33, 30, 24, 18, 12, 5, 63, 55, 48, 27, 60, 41, 37, 16, 46, 35, 44, 21, 52, 32, 23, 11, 54, 26, 40, 15, 34, 20, 31, 10, 25, 14, 19, 9, 13, 8, 7, 6]
def tabPow : List Nat := [1, 10, 100, 1000, 10000, 100000, 1000000, 10000000, 100000000, 1000000000, 10000000000, 100000000000, 1000000000000, 10000000000000, 100000000000000, 1000000000000000, 10000000000000000, 100000000000000000, 1000000000000000000, 10000000000000000000]
def tabAcc : List Nat := [128, 191, 160, 191, 128, 159, 144, 191, 128, 143, 0, 0, 0, 0, 0, 0, 0, 0, 0, 0, 0, 0, 0, 0, 0, 0, 0, 0, 0, 0, 0, 0]
def textR : ByteArray := { data := #[118, 97, 108, 117, 101, 32, 111, 117, 116, 32, 111, 102, 32, 114, 97, 110, 103, 101] }
def textS : ByteArray := { data := #[105, 110, 118, 97, 108, 105, 100, 32, 115, 121, 110, 116, 97, 120] }
noncomputable def low : Nat := (World.holding Tryz.prog default ⟨#[], #[], []⟩).heap.size
def put (cs : Array Value) : Obj → Obj
  | .cells _ t frozen => .cells cs t frozen
  | o => o
noncomputable def laidWorld (os : Os) : World :=
  let w0 := World.holding Tryz.prog os ⟨#[.cells #[.string textR] 180, .cells #[.string textS] 180], #[], []⟩
  { w0 with heap := ((((((w0.heap.modify 7 (put (cells8 tab32))).modify 8 (put (cells8 tab64))).modify 1 (put (cells64 tabPow))).modify 4 (put (cells8 tabAcc))).modify 6 (put #[.iface 178 (.pointer (some ⟨low, 0, none⟩))])).modify 5 (put #[.iface 178 (.pointer (some ⟨low + 1, 0, none⟩))])).modify 3 (put (cells8 Go.Pinned.utf8FirstZ)) }

/-- the list of all six rows. -/
def laidAll : List (String × DataW Unit) := Rows.digitsNamesRow.laid

set_option maxRecDepth 100000 in
theorem laid_met (os : Os) (args : Array Value) : laidMet Tryz.prog laidAll ((laidWorld os).forCall (fun _ _ => 0) ⟨#[], args, []⟩).memory :=
  laidMet_of_run' 8 (by kernel_rfl) (by kernel_rfl)

end Go.Proofs.YteophaobcebppaaGreatDoor.dg
