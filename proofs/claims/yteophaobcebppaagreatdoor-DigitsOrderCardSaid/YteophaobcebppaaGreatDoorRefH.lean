/- The walk of galleyref03's nearest. Conditions: the lists are short enough to lie in memory. -/
import Derived.Test.YteophaobcebppaaGreatDoorRefG
set_option linter.unusedSimpArgs false
namespace Go.Proofs.YteophaobcebppaaGreatDoor.dg
open Go.RowKit
set_option linter.unusedVariables false

set_option maxHeartbeats 1600000 in
set_option maxRecDepth 100000 in
theorem rnearest_any (vp : Value) (A B : Nat) (w : World) (hp : RdP w vp A B) (hB : 0 < B) (hlA : (wds A).length ≤ 100000) (hlB : (wds B).length ≤ 100000) :
    Calls Tryz.prog 68 #[vp] w fun e w' => e = .returned (.int .u64 (rd (A * 2 ^ 1074) B : Nat)) ∧ Below w.heap.size w w' := by
  have HRU := fun b ww (h : RdP ww vp A B) (hb : b ≤ INF) => against_rung vp A B b ww h hb hlA hlB
  have HHA := fun b ww (h : RdP ww vp A B) (hb : b ≤ INF) => against_half vp A B b ww h hb hlA hlB
  obtain ⟨X, hX⟩ : ∃ X, X = A * 2 ^ 1074 := ⟨_, rfl⟩
  simp only [← hX] at HRU HHA ⊢
  have HRU := Lib.hid HRU
  have HHA := Lib.hid HHA
  clear hX
  obtain ⟨out, hout⟩ : ∃ out, out = rd X B := ⟨_, rfl⟩
  rw [← hout]
  have HOUT := Lib.hid hout
  clear hout
  obtain ⟨va, vb, rfl, ha, hb⟩ := id hp
  obtain ⟨pa, ca, rfl, hac, ham, hap⟩ := id ha
  obtain ⟨pb, cb, rfl, hbc, hbm, hbp⟩ := id hb
  have HP := Lib.hid hp
  have hI := INF_val
  have HI := Lib.hid hI
  clear ha hb hap hbp hp hlA hlB hI
  go_enter Tryz.func68, Tryz.ntmps68
  go_wp2_with fail
  obtain ⟨wb, hwb⟩ : ∃ wb, wb = w.alloc (.cells #[.slice pa (wds A).length ca, .slice pb (wds B).length cb] 79) := ⟨_, rfl⟩
  have hb0 : Below w.heap.size w wb := by rw [hwb]; exact (Below.refl _ _).alloc (Nat.le_refl _) _
  have hrow : wb.heap[w.heap.size]? = some (.cells #[.slice pa (wds A).length ca, .slice pb (wds B).length cb] 79 (0, 0)) := by rw [hwb]; exact heap_alloc_new w _
  have hc0 := cell_of_row wb w.heap.size 0 _ _ _ hrow
  have hc1 := cell_of_row wb w.heap.size 1 _ _ _ hrow
  simp only [List.getElem?_toArray, List.getElem?_cons_zero, List.getElem?_cons_succ] at hc0 hc1
  have hbs : w.heap.size < wb.heap.size := by rw [hwb]; simp
  rw [← hwb]
  clear hwb hrow
  have HC0 := Lib.hid hc0; have HC1 := Lib.hid hc1
  clear hc0 hc1
  go_loopw [3, 4] (fun lv hv wr => ∃ lo hi : Nat, lv = .int .u64 lo ∧ hv = .int .u64 hi ∧ lo < hi ∧ hi ≤ INF ∧ B * V lo ≤ X ∧ (X < B * V hi ∨ hi = INF) ∧ Below wb.heap.size wb wr) (fun lv hv _ => (intOf hv - intOf lv).toNat)
  case atStart => exact ⟨0, INF, rfl, by rw [HI.out]; rfl, INF_pos, Nat.le_refl _, by rw [V_zero]; exact Nat.zero_le _, Or.inr rfl, Below.refl _ _⟩
  case round =>
    obtain ⟨lo, hi, rfl, rfl, hlh, hhi, hlX, hXh, hbr⟩ := hrel
    have hhi2 : hi ≤ 9218868437227405312 := by rw [← HI.out]; exact hhi
    have cell0 := cell_keep hbr HC0.out
    have cell1 := cell_keep hbr HC1.out
    have hbw : Below w.heap.size w wr := hb0.trans (hbr.mono hb0.size)
    have HPR := Lib.hid (HP.out.below hbw)
    have HLX := Lib.hid hlX; have HXH := Lib.hid hXh
    clear hlX hXh
    by_cases hgt : 1 < hi - lo
    · obtain ⟨mid, hmid⟩ : ∃ mid : Nat, (lo : Int) + ((hi : Int) - lo) / 2 = (mid : Int) := ⟨lo + (hi - lo) / 2, by omega⟩
      have hml : lo < mid := by omega
      have hmh : mid < hi := by omega
      have hgtI : 1 < (hi : Int) - lo := by omega
      have hparts := parts_any mid wr (by omega)
      have HPA := Lib.hid hparts
      have hru := HRU.out mid wr HPR.out (by omega)
      have HR := Lib.hid hru
      clear hparts hru hhi
      go_wp2_with fail
      refine HPA.out.mono ?_
      rintro e w1 ⟨rfl, rfl⟩
      go_wp2_with fail
      refine HR.out.mono ?_
      rintro e w2 ⟨r, rfl, hst, hb2⟩
      have hbr2 : Below wb.heap.size wb w2 := hbr.trans (hb2.mono hbr.size)
      have hmI : mid ≤ INF := by rw [HI.out]; omega
      have HST := Lib.hid hst
      clear hst
      by_cases hr : 0 ≤ r
      · have h1 : B * V mid ≤ X := by have h := HST.out.1; omega
        have H1 := Lib.hid h1
        clear h1
        go_wp2_with fail
        go_roundw
        case rel => exact ⟨mid, hi, rfl, rfl, hmh, by rw [HI.out]; omega, H1.out, HXH.out, hbr2⟩
        case measure => simp [intOf]; omega
      · have h1 : X < B * V mid := by have h := HST.out.1; omega
        have H1 := Lib.hid h1
        clear h1
        go_wp2_with fail
        go_roundw
        case rel => exact ⟨lo, mid, rfl, rfl, hml, hmI, HLX.out, Or.inl H1.out, hbr2⟩
        case measure => simp [intOf]; omega
    · have hh : hi = lo + 1 := by omega
      subst hh
      have hgtI : ¬ 1 < ((lo + 1 : Nat) : Int) - lo := by omega
      have hparts := parts_any lo wr (by omega)
      have HPA := Lib.hid hparts
      have hru := HHA.out lo wr HPR.out (by omega)
      have HR := Lib.hid hru
      obtain ⟨g1, g2, g3⟩ := rung_mg lo
      have hmg : ((mg lo : Nat) : Int) ≤ 9007199254740992 := by omega
      have hplI : ((pl lo : Nat) : Int) ≤ 3000 := by omega
      have hlo : lo < INF := by omega
      have HLO := Lib.hid hlo
      clear hparts hru g1 g2 g3 hhi hlo
      go_wp2_with fail
      refine HPA.out.mono ?_
      rintro e w1 ⟨rfl, rfl⟩
      go_wp2_with fail
      refine HR.out.mono ?_
      rintro e w2 ⟨r, rfl, hst, hb2⟩
      have hbw2 : Below w.heap.size w w2 := hbw.trans (hb2.mono hbw.size)
      have hfin : ∀ r2, ((r2 = lo ∧ 2 * X ≤ B * (V lo + V (lo + 1)) ∧ (2 * X = B * (V lo + V (lo + 1)) → lo % 2 = 0)) ∨ (r2 = lo + 1 ∧ B * (V lo + V (lo + 1)) ≤ 2 * X ∧ (2 * X = B * (V lo + V (lo + 1)) → lo % 2 = 1))) → r2 = out := fun r2 h => by
        rw [HOUT.out]
        refine near_bisect hB HLX.out ?_ HLO.out h
        rcases HXH.out with a | a
        · exact Or.inl a
        · exact Or.inr a
      have HFIN := Lib.hid hfin
      have HST := Lib.hid hst
      clear hfin hst
      by_cases hr1 : 0 < r
      · have he : lo + 1 = out := HFIN.out _ (Or.inr ⟨rfl, by have h := HST.out.2; omega, fun e => by have h := HST.out.2; omega⟩)
        have HE := Lib.hid he
        clear he
        go_wp2_with fail
        go_ret
        exact ⟨by rw [← HE.out]; exact ret_int (by omega), hbw2⟩
      · by_cases hr0 : r = 0
        · by_cases ho : lo % 2 = 1
          · have he : lo + 1 = out := HFIN.out _ (Or.inr ⟨rfl, by have h := HST.out; have h1 := h.1; have h2 := h.2; omega, fun _ => ho⟩)
            have hoI : ((lo : Nat) : Int) % 2 = 1 := by omega
            have HE := Lib.hid he
            clear he ho
            subst hr0
            go_wp2_with fail
            go_ret
            exact ⟨by rw [← HE.out]; exact ret_int (by omega), hbw2⟩
          · have he : lo = out := HFIN.out _ (Or.inl ⟨rfl, by have h := HST.out; have h1 := h.1; have h2 := h.2; omega, fun _ => by omega⟩)
            have hoI : ((lo : Nat) : Int) % 2 = 0 := by omega
            have HE := Lib.hid he
            clear he ho
            subst hr0
            go_wp2_with fail
            go_ret
            exact ⟨by rw [← HE.out]; rfl, hbw2⟩
        · have he : lo = out := HFIN.out _ (Or.inl ⟨rfl, by have h := HST.out; have h1 := h.1; have h2 := h.2; omega, fun e => by have h := HST.out; have h1 := h.1; have h2 := h.2; omega⟩)
          have HE := Lib.hid he
          clear he
          go_wp2_with fail
          go_ret
          exact ⟨by rw [← HE.out]; rfl, hbw2⟩

end Go.Proofs.YteophaobcebppaaGreatDoor.dg
