/- DigitsNames returns true. No conditions beyond those of the given statement. -/
import Derived.Test.YteophaobcebppaaGreatDoorLaid
import Derived.Test.YteophaobcebppaaGreatDoorNames
import Derived.LaidSub
import Derived.Carry
set_option linter.unusedSimpArgs false
set_option linter.unusedVariables false
namespace Go.Proofs.YteophaobcebppaaGreatDoor.dg
open Go.ChangeShapes Go.WideShapes Go.ChangeAt Go.RowKit

theorem one_listed : laidAll.filter (fun x => x.1 == "internal/strconv.uint64pow10") = [("internal/strconv.uint64pow10", Rows.laid_internal_strconv_uint64pow10)] := by kernel_rfl
theorem no_handle : [("internal/strconv.uint64pow10", (Rows.laid_internal_strconv_uint64pow10 : DataW Unit))].filter (fun x => x.2.handleName?.isNone) = [("internal/strconv.uint64pow10", Rows.laid_internal_strconv_uint64pow10)] := by kernel_rfl

theorem pow_data : (Rows.laid_internal_strconv_uint64pow10 : DataW Unit) = Lib.tabData .u64 Lib.pow10Tab := by kernel_rfl

set_option maxRecDepth 100000 in
/-- what the rows' list gives of the table of powers of ten. -/
theorem tab_of {W : World} (h : laidMetH Tryz.prog laidAll W) : Tab W := by
  have h1 := h.filter (fun x => x.1 == "internal/strconv.uint64pow10")
  rw [one_listed] at h1
  have h2 := (laidMetH_iff.1 h1).1
  rw [no_handle, pow_data] at h2
  exact Lib.tabIs_of_head (rest := []) gPow gPowType Tryz.underlying154 Tryz.underlying27 cellsU64 cellsPow h2

theorem names_contract (H : Type) (enc : TypeId × Value → H) (W : World) (base : Nat) (args : Array Value) (ds gs : List (DataW H)) (before : List MemPlace)
    (hval : ∀ (j : Nat) t v, Tryz.f3.params[j]? = some t → args[j]? = some v → Value.okWide Tryz.prog W .any base t v)
    (hW : DataW.Whole enc Tryz.prog Tryz.f3.params.toList Rows.digitsNamesSpec.vars false W args.toList ds gs before) (hL : laidMetH Tryz.prog laidAll W) :
    Calls Tryz.prog 3 args W fun e W' => ∃ v, e = .returned v ∧ Rows.digitsNamesSpec.post enc Tryz.prog Tryz.f3 false true false false W args v W' := by
  have hW' := hW
  obtain ⟨p, q, hA0, hV, rfl, hfz, hnd⟩ := hW
  have hA : DataW.TrodAll enc Tryz.prog W 0 (fun _ => true) true Tryz.f3.params.toList args.toList ds p := hA0
  rw [Tryz.params3] at hA
  obtain ⟨h1, h2, h3⟩ := trodAll_nil hA
  subst h2
  subst h3
  obtain rfl : args = #[] := by cases args; simp_all
  obtain ⟨rfl, rfl⟩ := trodVars_none hV
  refine (names_any W (tab_of hL)).mono fun e W' ⟨he, hb⟩ => ?_
  subst he
  exact ⟨_, rfl, [], [], [], [], [], [], hW', trodAll_cons_mk (shut_bool Tryz.underlying4 _) trodAll_mk0, trodAll_mk0, rfl, hb.frame _, fun h => by cases h⟩

theorem names_reads (os : Os) {H : Type} (enc : TypeId × Value → H) : ∃ places, DataW.whole enc Tryz.prog ((laidWorld os).forCall (fun _ _ => 0) ⟨#[], #[], []⟩).memory Tryz.f3.params.toList Rows.digitsNamesSpec.vars false (#[] : Array Value).toList 8 = some ([], [], places) :=
  ⟨[], by kernel_rfl⟩

set_option maxRecDepth 100000 in
theorem names_lifted (os : Os) (started : os.Started) (H : Type) (enc : TypeId × Value → H) (F : Stop.Interp) :
    ReturnsInHanded {} Tryz.checked os 3 .any ((OpenSpec.ofChange Rows.digitsNamesSpec).preRow enc Tryz.prog Tryz.f3 Rows.digitsNamesRow.domain false Rows.digitsNamesRow.laid) (((OpenSpec.ofChange Rows.digitsNamesSpec).at F).post enc Tryz.prog Tryz.f3 false true false false) := by
  obtain ⟨places, hx⟩ := names_reads os enc
  refine returnsInHanded_of_row (C := Tryz.checked) (s := OpenSpec.ofChange Rows.digitsNamesSpec) own started (by kernel_rfl) Tryz.func3
    (witness_row_atRef (enc := enc) (C := Tryz.checked) false (laidWorld os) #[] rfl (by kernel_rfl) (by kernel_rfl) (by kernel_rfl)
      (OpenSpec.preRow_of_cond 8 hx (by kernel_rfl) (fun k hk => by cases hk) (by kernel_rfl) (laid_met os _))) ?_
  intro W base args ds gs before hval hW _ _ _ hL _ _
  exact names_contract H enc W base args ds gs before hval hW hL

theorem names_said : Rows.DigitsNamesSaid :=
  OpenClaim.holds_of_cond 3 Tryz.f3 rfl rfl rfl rfl rfl rfl rfl ⟨rfl, rfl, rfl, rfl, rfl⟩ rfl rfl rfl rfl rfl (by kernel_rfl) Tryz.func3 (by kernel_rfl)
    (of_decide_eq_true (by kernel_rfl)) (by unfold Func.isWrapper; first | (rw [if_pos (by decide +kernel)]; kernel_rfl) | (rw [if_neg (by decide +kernel)]; exact ⟨rfl, rfl⟩))
    (fun os started H enc _ F => by rw [OpenClaim.pre_eq_preRow]; exact names_lifted os started H enc F)

theorem names_plain (f : FuncId) (fn : Func) (hf : Tryz.pinned.checked.prog.funcNamed "galley/galleylaw03.DigitsNames" = some f) (hfn : Tryz.pinned.checked.prog.funcs[f]? = some fn) :
    true = Tryz.pinned.checked.prog.looks [] ∧ ∀ (j : Nat) t, fn.params[j]? = some t → Tryz.pinned.checked.prog.wantsStandIn t = false := by
  obtain rfl : f = 3 := Option.some.inj ((show Tryz.prog.funcNamed "galley/galleylaw03.DigitsNames" = some 3 by kernel_rfl).symm.trans hf) |>.symm
  obtain rfl : fn = Tryz.f3 := (Option.some.inj (Tryz.func3.symm.trans hfn)).symm
  refine ⟨by kernel_rfl, fun j t ht => ?_⟩
  rw [Tryz.params3] at ht
  simp at ht

/-- the card of DigitsNames. -/
theorem names_card : Rows.DigitsNamesCardSaid :=
  Claim7.holds_tied_plain_at .later [] _ _ _ _ names_said (fun _ h => by cases h) (by kernel_rfl) (fun _ h => by cases h) digitsNames_row_tie rfl ⟨rfl, rfl⟩ (by kernel_rfl) rfl names_plain (by kernel_rfl)

end Go.Proofs.YteophaobcebppaaGreatDoor.dg
