/- The walk of bits.Split: a number's sign and class. Conditions: what it says. -/
import Derived.Test.YteophaobcebppaaGreatDoorDigs
import Derived.Test.YteophaobcebppaaGreatDoorRefE
set_option linter.unusedSimpArgs false
namespace Go.Proofs.YteophaobcebppaaGreatDoor.dg
open Go.RowKit
set_option linter.unusedVariables false

/-- the class of a word. -/
def cls (x : Nat) : Int := if INF < x % 2 ^ 63 then 4 else if x % 2 ^ 63 = INF then 3 else if x % 2 ^ 63 = 0 then 0 else if x % 2 ^ 63 < 2 ^ 52 then 1 else 2
/-- is a word's sign turned? (what is no number has none.) -/
def ngs (x : Nat) : Bool := !isNaN x && decide (2 ^ 63 ≤ x)

theorem and11 (k : Nat) (h : k < 4096) : bits .and .u64 (k : Int) 2047 = ((k % 2048 : Nat) : Int) := by
  have := bits_and_nat k 2047 (by rw [B64_def]; omega) (by rw [B64_def]; omega)
  rw [show (2047 : Nat) = 2 ^ 11 - 1 from rfl, Nat.and_two_pow_sub_one_eq_mod] at this
  exact this

theorem row4_set {w : World} {g : Nat} {t : TypeId} {x y z u : Value} (h : w.heap[g]? = some (.cells #[x, y, z, u] t (0, 0))) (a b c d : Value) :
    ((((w.setCell ⟨g, 0, none⟩ a).setCell ⟨g, 1, none⟩ b).setCell ⟨g, 2, none⟩ c).setCell ⟨g, 3, none⟩ d).heap[g]? = some (.cells #[a, b, c, d] t (0, 0)) := by
  have h1 := heap_setCell_same w g 0 _ t a h
  have h2 := heap_setCell_same _ g 1 _ t b h1
  have h3 := heap_setCell_same _ g 2 _ t c h2
  exact heap_setCell_same _ g 3 _ t d h3

/-- a word's sign, its class and its parts, as Split looks at them. -/
structure SplitOf (sI : Int) (f E : Nat) (n : Bool) (c : Int) : Prop where
  nan : E = 2047 → f ≠ 0 → n = false ∧ c = 4
  inf : E = 2047 → f = 0 → n = (sI != 0) ∧ c = 3
  nought : E = 0 → f = 0 → n = (sI != 0) ∧ c = 0
  sub : E = 0 → f ≠ 0 → n = (sI != 0) ∧ c = 1
  norm : E ≠ 0 → E ≠ 2047 → n = (sI != 0) ∧ c = 2

set_option maxHeartbeats 1600000 in
set_option maxRecDepth 100000 in
theorem split_core (x D f E : Nat) (sI : Int) (n : Bool) (c : Int) (w : World) (ha : bits .and .u64 (x : Int) 9223372036854775808 = sI) (hb : bits .and .u64 (x : Int) 4503599627370495 = (f : Int)) (hd : ((x : Nat) : Int) / 4503599627370496 = (D : Int)) (hc : bits .and .u64 (D : Int) 2047 = (E : Int)) (hx : x < B64) (hf : f < 2 ^ 52) (hE : E ≤ 2047) (hS : SplitOf sI f E n c) :
    Calls Tryz.prog 29 #[.float .f64 x] w fun e w' => ∃ (m i : Int), e = .returned (.agg #[.bool n, .int .i64 c, .int .u64 m, .int .i64 i]) ∧ Below w.heap.size w w' := by
  have HS := Lib.hid hS
  clear hS
  have hcase : (E = 2047 ∧ f ≠ 0) ∨ (E = 2047 ∧ f = 0) ∨ (E = 0 ∧ f = 0) ∨ (E = 0 ∧ f ≠ 0) ∨ (E ≠ 0 ∧ E ≠ 2047) := by omega
  have fI : ((f : Nat) : Int) = 0 ↔ f = 0 := by omega
  go_enter Tryz.func29, Tryz.ntmps29
  go_upto_region 2 with (fail)
  obtain ⟨w1, hw1⟩ : ∃ w1, w1 = w.alloc (.cells #[.bool false, .int .i64 0, .int .u64 0, .int .i64 0] 56) := ⟨_, rfl⟩
  rw [← hw1]
  have HW1 := Lib.hid hw1
  have HFI := Lib.hid fI
  clear hw1 fI
  go_upto_region 6 with (fail)
  obtain ⟨w2, hw2⟩ : ∃ w2, w2 = w1.alloc (.cells #[.bool (sI != 0), .int .i64 0, .int .u64 (f : Int), .int .i64 (E : Int)] 56) := ⟨_, rfl⟩
  rw [← hw2]
  have hb1 : Below w.heap.size w w1 := by rw [HW1.out]; exact (Below.refl _ _).alloc (Nat.le_refl _) _
  have hsz1 : w.heap.size < w1.heap.size := by rw [HW1.out]; simp
  have hb2 : Below w1.heap.size w1 w2 := by rw [hw2]; exact (Below.refl _ _).alloc (Nat.le_refl _) _
  have hrow1 : w2.heap[w.heap.size]? = some (.cells #[.bool false, .int .i64 0, .int .u64 0, .int .i64 0] 56 (0, 0)) := by
    rw [hb2.block w.heap.size hsz1, HW1.out]; exact heap_alloc_new w _
  have hrow2 : w2.heap[w1.heap.size]? = some (.cells #[.bool (sI != 0), .int .i64 0, .int .u64 (f : Int), .int .i64 (E : Int)] 56 (0, 0)) := by
    rw [hw2]; exact heap_alloc_new w1 _
  have c0 := cell_of_row w2 w1.heap.size 0 _ _ _ hrow2
  have c1 := cell_of_row w2 w1.heap.size 1 _ _ _ hrow2
  have c2 := cell_of_row w2 w1.heap.size 2 _ _ _ hrow2
  have c3 := cell_of_row w2 w1.heap.size 3 _ _ _ hrow2
  have d0 := cell_of_row w2 w.heap.size 0 _ _ _ hrow1
  have d1 := cell_of_row w2 w.heap.size 1 _ _ _ hrow1
  have d2 := cell_of_row w2 w.heap.size 2 _ _ _ hrow1
  have d3 := cell_of_row w2 w.heap.size 3 _ _ _ hrow1
  have f0 := frozen_of_row w2 w.heap.size 0 _ _ hrow1
  have f1 := frozen_of_row w2 w.heap.size 1 _ _ hrow1
  have f2 := frozen_of_row w2 w.heap.size 2 _ _ hrow1
  have f3 := frozen_of_row w2 w.heap.size 3 _ _ hrow1
  have g1 := frozen_of_row w2 w1.heap.size 1 _ _ hrow2
  have g2 := frozen_of_row w2 w1.heap.size 2 _ _ hrow2
  have g3 := frozen_of_row w2 w1.heap.size 3 _ _ hrow2
  simp only [List.getElem?_toArray, List.getElem?_cons_zero, List.getElem?_cons_succ] at c0 c1 c2 c3 d0 d1 d2 d3
  have HW2 := Lib.hid hw2; have HR1 := Lib.hid hrow1; have HR2 := Lib.hid hrow2
  have HBB := Lib.hid (hb1.trans (hb2.mono hb1.size))
  clear hw2 hrow1 hrow2 hb1 hb2
  rcases hcase with ⟨e1, e2⟩ | ⟨e1, e2⟩ | ⟨e1, e2⟩ | ⟨e1, e2⟩ | ⟨e1, e2⟩
  · obtain ⟨rfl, rfl⟩ := HS.out.nan e1 e2
    have e3 : ((E : Nat) : Int) = 2047 := by omega
    have e4 : ¬ ((f : Nat) : Int) = 0 := by omega
    clear e1 e2
    go_wp2_with fail
    have hset := row4_set HR1.out (.bool false) (.int .i64 4) (.int .u64 0) (.int .i64 0)
    refine bodyPost_ret (v := .agg #[.bool false, .int .i64 4, .int .u64 0, .int .i64 0]) ?hr rfl ⟨_, _, rfl, ?_⟩
    case hr => exact results_cell_row (p := 2) (ty := 56) (by rfl) _ _ w.heap.size _ _ _ _ (by rfl) hset Tryz.underlying56 (by rfl) (by kernel_rfl)
    exact (((HBB.out.setCell (Nat.le_refl _) _).setCell (Nat.le_refl _) _).setCell (Nat.le_refl _) _).setCell (Nat.le_refl _) _
  · obtain ⟨rfl, rfl⟩ := HS.out.inf e1 e2
    have e3 : ((E : Nat) : Int) = 2047 := by omega
    have e4 : ((f : Nat) : Int) = 0 := by omega
    clear e1 e2
    go_wp2_with fail
    have hset := row4_set HR1.out (.bool (sI != 0)) (.int .i64 3) (.int .u64 0) (.int .i64 0)
    refine bodyPost_ret (v := .agg #[.bool (sI != 0), .int .i64 3, .int .u64 0, .int .i64 0]) ?hr rfl ⟨_, _, rfl, ?_⟩
    case hr => exact results_cell_row (p := 2) (ty := 56) (by rfl) _ _ w.heap.size _ _ _ _ (by rfl) hset Tryz.underlying56 (by rfl) (by kernel_rfl)
    exact (((HBB.out.setCell (Nat.le_refl _) _).setCell (Nat.le_refl _) _).setCell (Nat.le_refl _) _).setCell (Nat.le_refl _) _
  · obtain ⟨rfl, rfl⟩ := HS.out.nought e1 e2
    have e3 : ((E : Nat) : Int) = 0 := by omega
    have e4 : ((f : Nat) : Int) = 0 := by omega
    clear e1 e2
    go_wp2_with fail
    have hset := row4_set HR1.out (.bool (sI != 0)) (.int .i64 0) (.int .u64 0) (.int .i64 0)
    refine bodyPost_ret (v := .agg #[.bool (sI != 0), .int .i64 0, .int .u64 0, .int .i64 0]) ?hr rfl ⟨_, _, rfl, ?_⟩
    case hr => exact results_cell_row (p := 2) (ty := 56) (by rfl) _ _ w.heap.size _ _ _ _ (by rfl) hset Tryz.underlying56 (by rfl) (by kernel_rfl)
    exact (((HBB.out.setCell (Nat.le_refl _) _).setCell (Nat.le_refl _) _).setCell (Nat.le_refl _) _).setCell (Nat.le_refl _) _
  · obtain ⟨rfl, rfl⟩ := HS.out.sub e1 e2
    have e3 : ((E : Nat) : Int) = 0 := by omega
    have e4 : ¬ ((f : Nat) : Int) = 0 := by omega
    clear e1 e2
    go_wp2_with fail
    have hbS := ((Below.refl w1.heap.size w2).setCell (p := ⟨w1.heap.size, 1, none⟩) (Nat.le_refl _) (.int .i64 1)).setCell (p := ⟨w1.heap.size, 3, none⟩) (Nat.le_refl _) (.int .i64 (-1074))
    have hrowS := (hbS.block w.heap.size hsz1).trans HR1.out
    have hset := row4_set hrowS (.bool (sI != 0)) (.int .i64 1) (.int .u64 (f : Int)) (.int .i64 (-1074))
    refine bodyPost_ret (v := .agg #[.bool (sI != 0), .int .i64 1, .int .u64 (f : Int), .int .i64 (-1074)]) ?hr rfl ⟨_, _, rfl, ?_⟩
    case hr => exact results_cell_row (p := 2) (ty := 56) (by rfl) _ _ w.heap.size _ _ _ _ (by rfl) hset Tryz.underlying56 (by rfl) (by kernel_rfl)
    exact ((((HBB.out.trans (hbS.mono (Nat.le_of_lt hsz1))).setCell (Nat.le_refl _) _).setCell (Nat.le_refl _) _).setCell (Nat.le_refl _) _).setCell (Nat.le_refl _) _
  · obtain ⟨rfl, rfl⟩ := HS.out.norm e1 e2
    have e3 : ¬ ((E : Nat) : Int) = 0 := by omega
    have e4 : ¬ ((E : Nat) : Int) = 2047 := by omega
    obtain ⟨g, hg⟩ : ∃ g : Int, bits .or .u64 (f : Int) 4503599627370496 = g := ⟨_, rfl⟩
    clear e1 e2
    go_wp2_with fail
    have hbS := (((Below.refl w1.heap.size w2).setCell (p := ⟨w1.heap.size, 1, none⟩) (Nat.le_refl _) (.int .i64 2)).setCell (p := ⟨w1.heap.size, 2, none⟩) (Nat.le_refl _) (.int .u64 g)).setCell (p := ⟨w1.heap.size, 3, none⟩) (Nat.le_refl _) (.int .i64 ((E : Int) - 1075))
    have hrowS := (hbS.block w.heap.size hsz1).trans HR1.out
    have hset := row4_set hrowS (.bool (sI != 0)) (.int .i64 2) (.int .u64 g) (.int .i64 ((E : Int) - 1075))
    refine bodyPost_ret (v := .agg #[.bool (sI != 0), .int .i64 2, .int .u64 g, .int .i64 ((E : Int) - 1075)]) ?hr rfl ⟨_, _, rfl, ?_⟩
    case hr => exact results_cell_row (p := 2) (ty := 56) (by rfl) _ _ w.heap.size _ _ _ _ (by rfl) hset Tryz.underlying56 (by rfl) (by kernel_rfl)
    exact ((((HBB.out.trans (hbS.mono (Nat.le_of_lt hsz1))).setCell (Nat.le_refl _) _).setCell (Nat.le_refl _) _).setCell (Nat.le_refl _) _).setCell (Nat.le_refl _) _

theorem split_any (x : Nat) (w : World) (hx : x < B64) :
    Calls Tryz.prog 29 #[.float .f64 x] w fun e w' => ∃ (m i : Int), e = .returned (.agg #[.bool (ngs x), .int .i64 (cls x), .int .u64 m, .int .i64 i]) ∧ Below w.heap.size w w' := by
  have hI := INF_val
  have hx2 : x < 2 ^ 64 := by rw [B64_def] at hx; omega
  have hm : x % 2 ^ 63 = 2 ^ 52 * (x / 2 ^ 52 % 2048) + x % 2 ^ 52 := by omega
  have hsg : ((((2 ^ 63 * (x / 2 ^ 63) : Nat) : Int)) != 0) = decide (2 ^ 63 ≤ x) := by
    by_cases h : 2 ^ 63 ≤ x
    · rw [decide_eq_true h]
      have : ((2 ^ 63 * (x / 2 ^ 63) : Nat) : Int) ≠ 0 := by omega
      simpa using this
    · rw [decide_eq_false h]
      have : ((2 ^ 63 * (x / 2 ^ 63) : Nat) : Int) = 0 := by omega
      rw [this]; rfl
  refine split_core x (x / 2 ^ 52) (x % 2 ^ 52) (x / 2 ^ 52 % 2048) _ _ _ w (and_top x hx) (mod52_and x hx) (by omega) (and11 (x / 2 ^ 52) (by omega)) hx (by omega) (by omega) ⟨?_, ?_, ?_, ?_, ?_⟩
  all_goals (intro h1 h2; (try rw [hsg]); unfold ngs isNaN cls)
  · rw [decide_eq_true (by omega), if_pos (by omega)]; exact ⟨rfl, rfl⟩
  · rw [decide_eq_false (by omega), if_neg (by omega), if_pos (by omega)]; exact ⟨rfl, rfl⟩
  · rw [decide_eq_false (by omega), if_neg (by omega), if_neg (by omega), if_pos (by omega)]; exact ⟨rfl, rfl⟩
  · rw [decide_eq_false (by omega), if_neg (by omega), if_neg (by omega), if_neg (by omega), if_pos (by omega)]; exact ⟨rfl, rfl⟩
  · rw [decide_eq_false (by omega), if_neg (by omega), if_neg (by omega), if_neg (by omega), if_neg (by omega)]; exact ⟨rfl, rfl⟩

end Go.Proofs.YteophaobcebppaaGreatDoor.dg
