/- DigitsParses and DigitsNears: the walks of their loops. Conditions: no text is longer than 2^30 bytes. -/
import Derived.Test.YteophaobcebppaaGreatDoorAwake
import Derived.Test.YteophaobcebppaaGreatDoorRefP
set_option linter.unusedSimpArgs false
namespace Go.Proofs.YteophaobcebppaaGreatDoor.dg
open Go.RowKit
set_option linter.unusedVariables false

/-- a slice of texts. -/
def RdS (w : World) (v : Value) (n : Nat) (S : Nat → ByteArray) : Prop :=
  ∃ p cap, v = .slice p n cap ∧ (n : Int) ≤ 9223372036854775807 ∧ (0 < n → ∃ b off, p = some ⟨b, off, none⟩ ∧ ∀ k, k < n → w.cell? ⟨b, off + k, none⟩ = some (.string (S k)))
/-- a slice of ints. -/
def RdI (w : World) (v : Value) (n : Nat) (F : Nat → Int) : Prop :=
  ∃ p cap, v = .slice p n cap ∧ (n : Int) ≤ 9223372036854775807 ∧ (0 < n → ∃ b off, p = some ⟨b, off, none⟩ ∧ ∀ k, k < n → w.cell? ⟨b, off + k, none⟩ = some (.int .i64 (F k)))

theorem parseP_word (l : List UInt8) : (parseP l).1 < B64 := by
  have hI := INF_lt
  unfold parseP
  split
  · show 0 < B64; rw [B64_pow]; omega
  · have := readP_le (figD l) (figN l + (expo 1099511627776 l (figE l)).1)
    simp only
    split
    · rw [B64_pow]; omega
    · rw [B64_pow]; omega
theorem nearP_word (l : List UInt8) (p : Int) : (nearP l p).1 < B64 := by
  have hI := INF_lt
  unfold nearP
  split
  · have := readP_le l p
    show readP l p < B64
    rw [B64_pow]; omega
  · show 0 < B64; rw [B64_pow]; omega

theorem below_keep {w w' : World} {a : Addr} {v : Value} (hb : Below w.heap.size w w') (h : w.cell? a = some v) : w'.cell? a = some v := (hb.cell (World.block_lt_of_cell? w _ h)).trans h

set_option maxHeartbeats 1600000 in
set_option maxRecDepth 100000 in
theorem parses_any (va : Value) (n : Nat) (S : Nat → ByteArray) (w : World) (hva : RdS w va n S) (hs : ∀ k, k < n → (S k).size ≤ 1073741823) (htab : Tab w) :
    Calls Tryz.prog 4 #[va] w fun e w' => e = .returned (.bool true) ∧ Below w.heap.size w w' := by
  obtain ⟨p, cap, rfl, hmax, hp⟩ := hva
  have HP := Lib.hid hp
  have HSZ := Lib.hid hs
  have HTAB := Lib.hid htab
  clear hp hs htab
  go_enter Tryz.func4, Tryz.ntmps4
  go_wp2_with fail
  refine (awake_any _ HTAB.out).mono ?_
  rintro e w1 ⟨rfl, hb1⟩
  have HB1 := Lib.hid hb1
  clear hb1
  go_wp2_with fail
  go_loopw [4] (fun vi wr => ∃ k : Nat, k ≤ n ∧ vi = .int .i64 k ∧ Below w.heap.size w wr) (fun vi _ => n - (intOf vi).toNat)
  case atStart => exact ⟨0, by omega, rfl, HB1.out⟩
  case round =>
    obtain ⟨k, hk, rfl, hbr⟩ := hrel
    by_cases hlt : k < n
    · obtain ⟨b, off, rfl, hcell⟩ := HP.out (by omega)
      have hc := below_keep hbr (hcell k hlt)
      obtain ⟨s, hs⟩ : ∃ s, s = S k := ⟨_, rfl⟩
      have hsz := HSZ.out k hlt
      rw [← hs] at hc hsz
      have hltI : ((k : Nat) : Int) < n := by omega
      have h1 := fun w => parse_any s w (by omega)
      have h2 := fun w => rparse_any s w hsz
      have hsl : s.data.toList.length ≤ 1073741823 := by rw [ba_list]; exact hsz
      rw [parse_same _ hsl] at h2
      obtain ⟨x, hx⟩ : ∃ x, x = (parseP s.data.toList).1 := ⟨_, rfl⟩
      obtain ⟨m, hm⟩ : ∃ m, m = (parseP s.data.toList).2.1 := ⟨_, rfl⟩
      obtain ⟨er, her⟩ : ∃ er, er = (parseP s.data.toList).2.2 := ⟨_, rfl⟩
      rw [← hx, ← hm, ← her] at h1 h2
      have hxB : x < B64 := by rw [hx]; exact parseP_word _
      have H1 := Lib.hid h1; have H2 := Lib.hid h2; have HBR := Lib.hid hbr
      clear h1 h2 hbr hx hm her hs hcell
      go_wp2_with fail
      refine (H1.out _).mono ?_
      rintro e w2 ⟨rfl, hb2⟩
      have hc2 := below_keep hb2 hc
      have HB2 := Lib.hid (HBR.out.trans (hb2.mono HBR.out.size))
      clear hb2 hc
      go_wp2_with fail
      refine (H2.out _).mono ?_
      rintro e w3 ⟨rfl, hb3⟩
      have HB3 := Lib.hid (HB2.out.trans (hb3.mono HB2.out.size))
      clear hb3 hc2
      go_wp2_with fail
      refine (same_any x _ hxB).mono ?_
      rintro e w' ⟨rfl, rfl⟩
      go_wp2_with fail
      go_roundw
      case rel => exact ⟨k + 1, by omega, by go_num, HB3.out⟩
      case measure => simp [intOf]; omega
    · have hkn : k = n := by omega
      subst hkn
      go_wp2_with fail
      go_ret
      exact ⟨rfl, hbr⟩

end Go.Proofs.YteophaobcebppaaGreatDoor.dg
