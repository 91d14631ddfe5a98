/- DigitsNears: the walk of its loop. Conditions: no text is longer than 2^30 bytes. -/
import Derived.Test.YteophaobcebppaaGreatDoorLawP
import Derived.Deep.RegionHeld3
set_option linter.unusedSimpArgs false
namespace Go.Proofs.YteophaobcebppaaGreatDoor.dg
open Go.RowKit
set_option linter.unusedVariables false

set_option maxHeartbeats 3200000 in
set_option maxRecDepth 100000 in
theorem nears_any (va vb : Value) (n m : Nat) (S : Nat → ByteArray) (F : Nat → Int) (w : World) (hva : RdS w va n S) (hvb : RdI w vb m F) (hs : ∀ k, k < n → (S k).size ≤ 1073741823) (hf : ∀ k, k < m → -9223372036854775808 ≤ F k ∧ F k ≤ 9223372036854775807) (htab : Tab w) :
    Calls Tryz.prog 6 #[va, vb] w fun e w' => e = .returned (.bool true) ∧ Below w.heap.size w w' := by
  obtain ⟨p, cap, rfl, hmax, hp⟩ := hva
  obtain ⟨p2, cap2, rfl, hmax2, hp2⟩ := hvb
  have HP := Lib.hid hp
  have HP2 := Lib.hid hp2
  have HSZ := Lib.hid hs
  have HF := Lib.hid hf
  have HTAB := Lib.hid htab
  clear hp hs htab hp2 hf
  go_enter Tryz.func6, Tryz.ntmps6
  go_wp2_with fail
  refine (awake_any _ HTAB.out).mono ?_
  rintro e w1 ⟨rfl, hb1⟩
  have HB1 := Lib.hid hb1
  clear hb1
  go_wp2_with fail
  go_loopw [6] (fun vi wr => ∃ k : Nat, k ≤ n ∧ vi = .int .i64 k ∧ Below w.heap.size w wr) (fun vi _ => n - (intOf vi).toNat)
  case atStart => exact ⟨0, by omega, rfl, HB1.out⟩
  case round =>
    obtain ⟨k, hk, rfl, hbr⟩ := hrel
    by_cases hlt : k < n
    · have hltI : ((k : Nat) : Int) < n := by omega
      by_cases hlt2 : k < m
      · have hltI2 : ((k : Nat) : Int) < m := by omega
        obtain ⟨b, off, rfl, hcell⟩ := HP.out (by omega)
        obtain ⟨b2, off2, rfl, hcell2⟩ := HP2.out (by omega)
        have hc := below_keep hbr (hcell k hlt)
        have hd := below_keep hbr (hcell2 k hlt2)
        obtain ⟨s, hs⟩ : ∃ s, s = S k := ⟨_, rfl⟩
        obtain ⟨f, hff⟩ : ∃ f, f = F k := ⟨_, rfl⟩
        have hsz := HSZ.out k hlt
        have hfr := HF.out k hlt2
        rw [← hs] at hc hsz
        rw [← hff] at hd hfr
        have h1 := fun w => nearest_any s f w (by omega) hfr.1 hfr.2
        have h2 := fun w => rnst_any s f w hsz hfr.1 hfr.2
        obtain ⟨x, hx⟩ : ∃ x, x = (nearP s.data.toList f).1 := ⟨_, rfl⟩
        obtain ⟨er, her⟩ : ∃ er, er = (nearP s.data.toList f).2 := ⟨_, rfl⟩
        rw [← hx, ← her] at h1 h2
        have hxB : x < B64 := by rw [hx]; exact nearP_word _ _
        have H1 := Lib.hid h1; have H2 := Lib.hid h2; have HBR := Lib.hid hbr
        clear h1 h2 hbr hx her hs hff hcell hcell2
        go_wp2_with fail
        go_region_held3 (fun w' => w'.cell? ⟨b, off + k, none⟩ = some (.string s) ∧ w'.cell? ⟨b2, off2 + k, none⟩ = some (.int .i64 f)) (first | go_keep | (exact ⟨hc, hd⟩) | (exact ⟨below_keep hb2 hc, below_keep hb2 hd⟩)) (first | (go_at_call 19; refine (H1.out _).mono ?_; rintro e w2 ⟨rfl, hb2⟩))
        have hb3 : Below wr.heap.size wr w2 := (Below.refl _ _).drew.trans hb2
        have hc2 := below_keep hb3 hc
        have hd2 := below_keep hb3 hd
        have HB2 := Lib.hid (HBR.out.trans (hb3.mono HBR.out.size))
        clear hb2 hb3 hc hd
        go_wp2_with fail
        go_region_held3 (fun w' => w'.cell? ⟨b, off + k, none⟩ = some (.string s) ∧ w'.cell? ⟨b2, off2 + k, none⟩ = some (.int .i64 f)) (first | go_keep | (exact ⟨hc2, hd2⟩) | (exact ⟨below_keep hb3 hc2, below_keep hb3 hd2⟩)) (first | (go_at_call 20; refine (H2.out _).mono ?_; rintro e w3 ⟨rfl, hb3⟩))
        have hb4 : Below w2.heap.size w2 w3 := (Below.refl _ _).drew.trans hb3
        have HB3 := Lib.hid (HB2.out.trans (hb4.mono HB2.out.size))
        clear hb3 hb4 hc2 hd2
        go_wp2_with fail
        refine (same_any x _ hxB).mono ?_
        rintro e w' ⟨rfl, rfl⟩
        go_wp2_with fail
        go_roundw
        case rel => exact ⟨k + 1, by omega, by go_num, HB3.out⟩
        case measure => simp [intOf]; omega
      · have hltI2 : ¬ ((k : Nat) : Int) < m := by omega
        go_wp2_with fail
        go_ret
        exact ⟨rfl, hbr⟩
    · have hkn : k = n := by omega
      subst hkn
      go_wp2_with fail
      go_ret
      exact ⟨rfl, hbr⟩

end Go.Proofs.YteophaobcebppaaGreatDoor.dg
