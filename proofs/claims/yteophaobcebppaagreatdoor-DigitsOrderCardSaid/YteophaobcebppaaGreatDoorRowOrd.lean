/- DigitsOrder returns true. No conditions beyond those of the given statement. -/
import Derived.Test.YteophaobcebppaaGreatDoorLaid
import Derived.Test.YteophaobcebppaaGreatDoorLawO
import Derived.Test.YteophaobcebppaaGreatDoorTab
import Derived.Lib.SmallJoins
import Derived.Carry
set_option linter.unusedSimpArgs false
set_option linter.unusedVariables false
namespace Go.Proofs.YteophaobcebppaaGreatDoor.dg
open Go.ChangeShapes Go.WideShapes Go.ChangeAt Go.RowKit Go.Joins

theorem o_cells_str : Tryz.prog.cellsOf 9 = 1 := by kernel_rfl
theorem o_laid_out : laidOutB Tryz.prog = true := by kernel_rfl

theorem i64_range {z : Int} (h : (Lit.int .i64 z).wf = true) : -9223372036854775808 ≤ z ∧ z ≤ 9223372036854775807 := by
  simp only [Lit.wf, Bool.and_eq_true, decide_eq_true_eq] at h
  have a1 : IntKind.i64.min = -9223372036854775808 := by decide
  have a2 : IntKind.i64.max = 9223372036854775807 := by decide
  rw [a1, a2] at h
  exact h

set_option maxRecDepth 100000 in
theorem order_contract (H : Type) (enc : TypeId × Value → H) (W : World) (base : Nat) (args : Array Value) (ds gs : List (DataW H)) (before : List MemPlace)
    (hval : ∀ (j : Nat) t v, Tryz.f8.params[j]? = some t → args[j]? = some v → Value.okWide Tryz.prog W .any base t v)
    (hW : DataW.Whole enc Tryz.prog Tryz.f8.params.toList Rows.digitsOrderSpec.vars false W args.toList ds gs before) (hL : laidMetH Tryz.prog laidAll W)
    (hwt : (DataW.weightsEach Tryz.prog (Tryz.f8.params.toList ++ []) (ds ++ gs)).all (· ≤ reachBytes) = true) :
    Calls Tryz.prog 8 args W fun e W' => ∃ v, e = .returned v ∧ Rows.digitsOrderSpec.post enc Tryz.prog Tryz.f8 false true false false W args v W' := by
  have hW' := hW
  obtain ⟨p, q, hA0, hV, rfl, hfz, hnd⟩ := hW
  have hA : DataW.TrodAll enc Tryz.prog W 0 (fun _ => true) true Tryz.f8.params.toList args.toList ds p := hA0
  rw [Tryz.params8] at hA hval hwt
  obtain ⟨v0, vs0, d0, ds0, p0, q0, hargs, rfl, rfl, h0, r0⟩ := trodAll_cons hA
  obtain ⟨rfl, rfl, rfl⟩ := trodAll_nil r0
  obtain rfl : args = #[v0] := by cases args; simp_all
  obtain ⟨rfl, rfl⟩ := trodVars_none hV
  clear hA0
  simp only [List.append_nil] at hW'
  obtain ⟨a0, a1, a2, a3, y0, y1, y2, y3, nf, rfl, rfl, rfl, g0, g1, g2, g3⟩ := open_agg4 Tryz.underlying47 (by kernel_rfl) (by kernel_rfl) (hval 0 47 v0 rfl rfl) h0
  obtain ⟨A, hA1, hA2, hA3⟩ := DataW.trod_string Tryz.underlying9 g0
  obtain ⟨B, hB1, hB2, hB3⟩ := DataW.trod_string Tryz.underlying9 g1
  obtain ⟨pz, hP1, hP2, hP3⟩ := DataW.trod_int Tryz.underlying3 g2
  obtain ⟨zz, hZ1, hZ2, hZ3⟩ := DataW.trod_int Tryz.underlying3 g3
  simp only [List.cons.injEq, and_true] at hA1 hB1 hP1 hZ1
  subst hA1 hB1 hP1 hZ1
  have hp := i64_range hP3
  have hz := i64_range hZ3
  have hwA : A.size ≤ 140737488351232 ∧ B.size ≤ 140737488351232 := by
    rw [hA2, hB2, hP2, hZ2] at hwt
    simp [DataW.weightsEach, DataW.weights, Tryz.underlying47, reachBytes] at hwt
    exact ⟨of_decide_eq_true hwt.1, of_decide_eq_true hwt.2⟩
  refine (order_any A B pz zz W hwA.1 hwA.2 hp.1 hp.2 hz.1 hz.2 (tab_of hL)).mono fun e W' ⟨he, hb⟩ => ?_
  subst he
  exact ⟨_, rfl, [_], [], _, [], _, [], hW', trodAll_cons_mk (shut_bool Tryz.underlying4 _) trodAll_mk0, by
    rw [Tryz.params8]
    exact trodAll_mk1 (Below.trod o_laid_out (by kernel_rfl) (of_decide_eq_true (by kernel_rfl)) h0 hb (fun x hx => by simpa using hW'.lt x hx)), rfl, hb.frame _, fun h => by cases h⟩

theorem order_reads (os : Os) {H : Type} (enc : TypeId × Value → H) : ∃ places, DataW.whole enc Tryz.prog ((laidWorld os).forCall (fun _ _ => 0) ⟨#[], #[.agg #[.string ⟨#[]⟩, .string ⟨#[]⟩, .int .i64 0, .int .i64 0]], []⟩).memory Tryz.f8.params.toList Rows.digitsOrderSpec.vars false (#[Value.agg #[.string ⟨#[]⟩, .string ⟨#[]⟩, .int .i64 0, .int .i64 0]] : Array Value).toList 8 = some ([.agg [.lit (.string []), .lit (.string []), .lit (.int .i64 0), .lit (.int .i64 0)]], [], places) :=
  ⟨[], by kernel_rfl⟩

set_option maxRecDepth 100000 in
theorem order_lifted (os : Os) (started : os.Started) (H : Type) (enc : TypeId × Value → H) (F : Stop.Interp) :
    ReturnsInHanded {} Tryz.checked os 8 .any ((OpenSpec.ofChange Rows.digitsOrderSpec).preRow enc Tryz.prog Tryz.f8 Rows.digitsOrderRow.domain false Rows.digitsOrderRow.laid) (((OpenSpec.ofChange Rows.digitsOrderSpec).at F).post enc Tryz.prog Tryz.f8 false true false false) := by
  obtain ⟨places, hx⟩ := order_reads os enc
  refine returnsInHanded_of_row (C := Tryz.checked) (s := OpenSpec.ofChange Rows.digitsOrderSpec) own started (by kernel_rfl) Tryz.func8
    (witness_row_atRef (enc := enc) (C := Tryz.checked) false (laidWorld os) #[.agg #[.string ⟨#[]⟩, .string ⟨#[]⟩, .int .i64 0, .int .i64 0]] rfl (by kernel_rfl) (by kernel_rfl) (by kernel_rfl)
      (OpenSpec.preRow_of_cond 8 hx (by kernel_rfl) (fun k hk => by cases hk) (by kernel_rfl) (laid_met os _))) ?_
  intro W base args ds gs before hval hW _ _ hwt hL _ _
  exact order_contract H enc W base args ds gs before hval hW hL hwt

theorem order_said : Rows.DigitsOrderSaid :=
  OpenClaim.holds_of_cond 8 Tryz.f8 rfl rfl rfl rfl rfl rfl rfl ⟨rfl, rfl, rfl, rfl, rfl⟩ rfl rfl rfl rfl rfl (by kernel_rfl) Tryz.func8 (by kernel_rfl)
    (of_decide_eq_true (by kernel_rfl)) (by unfold Func.isWrapper; first | (rw [if_pos (by decide +kernel)]; kernel_rfl) | (rw [if_neg (by decide +kernel)]; exact ⟨rfl, rfl⟩))
    (fun os started H enc _ F => by rw [OpenClaim.pre_eq_preRow]; exact order_lifted os started H enc F)

theorem order_plain (f : FuncId) (fn : Func) (hf : Tryz.pinned.checked.prog.funcNamed "galley/galleylaw03.DigitsOrder" = some f) (hfn : Tryz.pinned.checked.prog.funcs[f]? = some fn) :
    true = Tryz.pinned.checked.prog.looks [] ∧ ∀ (j : Nat) t, fn.params[j]? = some t → Tryz.pinned.checked.prog.wantsStandIn t = false := by
  obtain rfl : f = 8 := Option.some.inj ((show Tryz.prog.funcNamed "galley/galleylaw03.DigitsOrder" = some 8 by kernel_rfl).symm.trans hf) |>.symm
  obtain rfl : fn = Tryz.f8 := (Option.some.inj (Tryz.func8.symm.trans hfn)).symm
  refine ⟨by kernel_rfl, fun j t ht => ?_⟩
  rw [Tryz.params8] at ht
  obtain rfl : t = 47 := by simpa using Array.mem_of_getElem? ht
  exact (show Tryz.prog.wantsStandIn 47 = false by kernel_rfl)

/-- the card of DigitsOrder. -/
theorem order_card : Rows.DigitsOrderCardSaid :=
  Claim7.holds_tied_plain_at .later [] _ _ _ _ order_said (fun _ h => by cases h) (by kernel_rfl) (fun _ h => by cases h) digitsOrder_row_tie rfl ⟨rfl, rfl⟩ (by kernel_rfl) rfl order_plain (by kernel_rfl)

end Go.Proofs.YteophaobcebppaaGreatDoor.dg
