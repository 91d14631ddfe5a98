/- The walk of stands: how 0.a and 0.b stand; plain: the digits' worth stands so too. Condition: the texts can be held. -/
import Derived.Test.YteophaobcebppaaGreatDoorBackP
set_option linter.unusedSimpArgs false
set_option linter.unusedVariables false
namespace Go.Proofs.YteophaobcebppaaGreatDoor.dg
open Go.RowKit

/-- the byte at a place, a nought behind the end. -/
def padA (l : List UInt8) (k : Nat) : Nat := if h : k < l.length then l[k].toNat else 48

/-- how two rows stand. -/
def StandsL (la lb : List UInt8) (c : Int) : Prop :=
  (c = -1 ∧ ∃ i, (∀ j, j < i → padA la j = padA lb j) ∧ padA la i < padA lb i) ∨
  (c = 1 ∧ ∃ i, (∀ j, j < i → padA la j = padA lb j) ∧ padA lb i < padA la i) ∨
  (c = 0 ∧ ∀ j, padA la j = padA lb j)

theorem padA_in {s : ByteArray} {k : Nat} (h : k < s.size) : padA s.data.toList k = s[k].toNat := by
  unfold padA
  rw [dif_pos (by rw [ba_list]; exact h)]
  congr 1
theorem padA_out {s : ByteArray} {k : Nat} (h : ¬ k < s.size) : padA s.data.toList k = 48 := by
  unfold padA
  rw [dif_neg (by rw [ba_list]; exact h)]

theorem eqs_succ {la lb : List UInt8} {i : Nat} (h : ∀ j, j < i → padA la j = padA lb j) (h2 : padA la i = padA lb i) : ∀ j, j < i + 1 → padA la j = padA lb j := fun j hj => by
  rcases Nat.lt_or_ge j i with h3 | h3
  · exact h j h3
  · rw [show j = i by omega]; exact h2

set_option maxHeartbeats 1600000 in
set_option maxRecDepth 100000 in
theorem stands_any (a b : ByteArray) (w : World) (ha : a.size ≤ 140737488355328) (hb : b.size ≤ 140737488355328) :
    Calls Tryz.prog 25 #[.string a, .string b] w fun e w' => ∃ c : Int, e = .returned (.int .i64 c) ∧ StandsL a.data.toList b.data.toList c ∧ w = w' := by
  go_enter Tryz.func25, Tryz.ntmps25
  go_wp2_with fail
  go_loop [5] (fun v => ∃ i : Nat, v = .int .i64 i ∧ (i ≤ a.size ∨ i ≤ b.size) ∧ ∀ j, j < i → padA a.data.toList j = padA b.data.toList j) (fun v => (a.size + b.size) - (intOf v).toNat)
  case atStart => exact ⟨0, rfl, Or.inl (by omega), fun j hj => by omega⟩
  case round =>
    obtain ⟨i, rfl, hi, heq⟩ := hrel
    have HEQ := Lib.hid heq
    clear heq
    by_cases h1 : i < a.size
    · have hx := padA_in h1
      obtain ⟨x, hxd⟩ : ∃ x, x = padA a.data.toList i := ⟨_, rfl⟩
      rw [← hxd] at hx
      have hxI : ((a[i].toNat : Nat) : Int) = (x : Int) := by omega
      have h1I : ((i : Nat) : Int) < a.size := by omega
      have HX := Lib.hid hxd
      clear hx hxd
      by_cases h2 : i < b.size
      · have hy := padA_in h2
        obtain ⟨y, hyd⟩ : ∃ y, y = padA b.data.toList i := ⟨_, rfl⟩
        rw [← hyd] at hy
        have hyI : ((b[i].toNat : Nat) : Int) = (y : Int) := by omega
        have h2I : ((i : Nat) : Int) < b.size := by omega
        have HY := Lib.hid hyd
        clear hy hyd
        rcases Nat.lt_trichotomy x y with hc | hc | hc
        · have hcI : (x : Int) < y := by omega
          go_wp2_with fail
          go_ret
          exact ⟨-1, rfl, Or.inl ⟨rfl, i, HEQ.out, by rw [← HX.out, ← HY.out]; exact hc⟩, rfl⟩
        · have hcI : ¬ (x : Int) < y := by omega
          have hcI2 : ¬ (y : Int) < x := by omega
          go_wp2_with fail
          go_round
          case rel => exact ⟨i + 1, by go_num, Or.inl (by omega), eqs_succ HEQ.out (by rw [← HX.out, ← HY.out]; exact hc)⟩
          case measure => simp [intOf]; omega
        · have hcI : ¬ (x : Int) < y := by omega
          have hcI2 : (y : Int) < x := by omega
          go_wp2_with fail
          go_ret
          exact ⟨1, rfl, Or.inr (Or.inl ⟨rfl, i, HEQ.out, by rw [← HX.out, ← HY.out]; exact hc⟩), rfl⟩
      · have h2I : ¬ ((i : Nat) : Int) < b.size := by omega
        have HY := Lib.hid (padA_out h2)
        rcases Nat.lt_trichotomy x 48 with hc | hc | hc
        · have hcI : (x : Int) < 48 := by omega
          go_wp2_with fail
          go_ret
          exact ⟨-1, rfl, Or.inl ⟨rfl, i, HEQ.out, by rw [← HX.out, HY.out]; exact hc⟩, rfl⟩
        · have hcI : ¬ (x : Int) < 48 := by omega
          have hcI2 : ¬ (48 : Int) < x := by omega
          go_wp2_with fail
          go_round
          case rel => exact ⟨i + 1, by go_num, Or.inl (by omega), eqs_succ HEQ.out (by rw [← HX.out, HY.out]; exact hc)⟩
          case measure => simp [intOf]; omega
        · have hcI : ¬ (x : Int) < 48 := by omega
          have hcI2 : (48 : Int) < x := by omega
          go_wp2_with fail
          go_ret
          exact ⟨1, rfl, Or.inr (Or.inl ⟨rfl, i, HEQ.out, by rw [← HX.out, HY.out]; exact hc⟩), rfl⟩
    · have h1I : ¬ ((i : Nat) : Int) < a.size := by omega
      have HX := Lib.hid (padA_out h1)
      by_cases h2 : i < b.size
      · have hy := padA_in h2
        obtain ⟨y, hyd⟩ : ∃ y, y = padA b.data.toList i := ⟨_, rfl⟩
        rw [← hyd] at hy
        have hyI : ((b[i].toNat : Nat) : Int) = (y : Int) := by omega
        have h2I : ((i : Nat) : Int) < b.size := by omega
        have HY := Lib.hid hyd
        clear hy hyd
        rcases Nat.lt_trichotomy 48 y with hc | hc | hc
        · have hcI : (48 : Int) < y := by omega
          go_wp2_with fail
          go_ret
          exact ⟨-1, rfl, Or.inl ⟨rfl, i, HEQ.out, by rw [HX.out, ← HY.out]; exact hc⟩, rfl⟩
        · have hcI : ¬ (48 : Int) < y := by omega
          have hcI2 : ¬ (y : Int) < 48 := by omega
          go_wp2_with fail
          go_round
          case rel => exact ⟨i + 1, by go_num, Or.inr (by omega), eqs_succ HEQ.out (by rw [HX.out, ← HY.out]; exact hc)⟩
          case measure => simp [intOf]; omega
        · have hcI : ¬ (48 : Int) < y := by omega
          have hcI2 : (y : Int) < 48 := by omega
          go_wp2_with fail
          go_ret
          exact ⟨1, rfl, Or.inr (Or.inl ⟨rfl, i, HEQ.out, by rw [HX.out, ← HY.out]; exact hc⟩), rfl⟩
      · have h2I : ¬ ((i : Nat) : Int) < b.size := by omega
        go_wp2_with fail
        go_ret
        refine ⟨0, rfl, Or.inr (Or.inr ⟨rfl, fun j => ?_⟩), rfl⟩
        rcases Nat.lt_or_ge j i with h3 | h3
        · exact HEQ.out j h3
        · rw [padA_out (by omega), padA_out (by omega)]

/-! ### the digits' worth -/

theorem dval_step {l : List UInt8} (h : AllD l) {i : Nat} (hi : i < l.length) : dval l = dval (l.take i) * 10 ^ (l.length - i) + ((l[i].toNat - 48) * 10 ^ (l.length - i - 1) + dval (l.drop (i + 1))) := by
  have h1 := dval_append (l.take i) (l.drop i)
  rw [List.take_append_drop, List.length_drop] at h1
  rw [h1, List.drop_eq_getElem_cons hi, dval_cons, List.length_drop]
  congr 4

theorem take_same {a b : List UInt8} (hlen : a.length = b.length) {i : Nat} (hi : i ≤ a.length) (h : ∀ j, j < i → padA a j = padA b j) : a.take i = b.take i := by
  refine List.ext_getElem (by simp; omega) fun j h1 h2 => ?_
  rw [List.getElem_take, List.getElem_take]
  have hj : j < i := by simp at h1; omega
  have := h j hj
  unfold padA at this
  rw [dif_pos (by omega), dif_pos (by omega)] at this
  exact UInt8.toNat_inj.1 this

theorem lex_lt {a b : List UInt8} (ha : AllD a) (hb : AllD b) (hlen : a.length = b.length) {i : Nat} (hi : i < a.length) (h : ∀ j, j < i → padA a j = padA b j) (hlt : padA a i < padA b i) : dval a < dval b := by
  have hi2 : i < b.length := by omega
  have ea : padA a i = a[i].toNat := by unfold padA; rw [dif_pos hi]
  have eb : padA b i = b[i].toNat := by unfold padA; rw [dif_pos hi2]
  have s1 := dval_step ha hi
  have s2 := dval_step hb hi2
  rw [take_same hlen (by omega) h, ← ea] at s1
  rw [← eb, show b.length - i = a.length - i by omega] at s2
  rw [s1, s2]
  have h1 := dval_lt (ha.drop (i + 1))
  rw [List.length_drop, show a.length - (i + 1) = a.length - i - 1 by omega] at h1
  have ha1 : 48 ≤ padA a i := by rw [ea]; exact (ha a[i] (List.getElem_mem hi)).1
  have h2 : (padA a i - 48 + 1) * 10 ^ (a.length - i - 1) ≤ (padA b i - 48) * 10 ^ (a.length - i - 1) := Nat.mul_le_mul_right _ (by omega)
  rw [Nat.add_mul, Nat.one_mul] at h2
  omega

/-- a row with noughts behind, as long as asked. -/
def padTo (l : List UInt8) (n : Nat) : List UInt8 := l ++ List.replicate (n - l.length) 48
theorem padTo_len {l : List UInt8} {n : Nat} (h : l.length ≤ n) : (padTo l n).length = n := by unfold padTo; simp; omega
theorem padTo_all {l : List UInt8} (h : AllD l) (n : Nat) : AllD (padTo l n) := by
  refine AllD.append h fun c hc => ?_
  rw [List.mem_replicate] at hc
  rw [hc.2]; decide
theorem padTo_at (l : List UInt8) (n k : Nat) : padA (padTo l n) k = padA l k := by
  unfold padA padTo
  by_cases h : k < l.length
  · rw [dif_pos (by simp; omega), dif_pos h, List.getElem_append_left h]
  · rw [dif_neg h]
    split
    · rename_i h2
      rw [List.getElem_append_right (by omega), List.getElem_replicate]; rfl
    · rfl

theorem all_same {a b : List UInt8} (hlen : a.length = b.length) (h : ∀ j, padA a j = padA b j) : a = b := by
  have := take_same hlen (Nat.le_refl _) (fun j _ => h j)
  rwa [List.take_length, hlen, List.take_length] at this

/-- how two rows stand, so their readings stand. -/
theorem stands_reads {a b : List UInt8} {c : Int} (ha : AllD a) (hb : AllD b) (h : StandsL a b c) (p : Int) : (c < 0 → readP a p ≤ readP b p) ∧ (0 < c → readP b p ≤ readP a p) ∧ (c = 0 → readP a p = readP b p) := by
  obtain ⟨n, hn⟩ : ∃ n, n = max a.length b.length := ⟨_, rfl⟩
  have la : (padTo a n).length = n := padTo_len (by omega)
  have lb : (padTo b n).length = n := padTo_len (by omega)
  have ra : readP (padTo a n) p = readP a p := readP_behind a _ p
  have rb : readP (padTo b n) p = readP b p := readP_behind b _ p
  have out : ∀ i, ¬ i < n → padA a i = padA b i := fun i hi => by
    unfold padA
    rw [dif_neg (by omega), dif_neg (by omega)]
  rcases h with ⟨rfl, i, h1, h2⟩ | ⟨rfl, i, h1, h2⟩ | ⟨rfl, h1⟩
  · have hi : i < n := by
      rcases Nat.lt_or_ge i n with h | h
      · exact h
      · have := out i (by omega); omega
    have := lex_lt (padTo_all ha n) (padTo_all hb n) (by rw [la, lb]) (i := i) (by rw [la]; exact hi) (fun j hj => by rw [padTo_at, padTo_at]; exact h1 j hj) (by rw [padTo_at, padTo_at]; exact h2)
    have hm := readP_mono (padTo_all ha n) (padTo_all hb n) (by rw [la, lb]) (Nat.le_of_lt this) p
    rw [ra, rb] at hm
    exact ⟨fun _ => hm, fun h => by omega, fun h => by omega⟩
  · have hi : i < n := by
      rcases Nat.lt_or_ge i n with h | h
      · exact h
      · have := out i (by omega); omega
    have := lex_lt (padTo_all hb n) (padTo_all ha n) (by rw [la, lb]) (i := i) (by rw [lb]; exact hi) (fun j hj => by rw [padTo_at, padTo_at]; exact (h1 j hj).symm) (by rw [padTo_at, padTo_at]; exact h2)
    have hm := readP_mono (padTo_all hb n) (padTo_all ha n) (by rw [la, lb]) (Nat.le_of_lt this) p
    rw [ra, rb] at hm
    exact ⟨fun h => by omega, fun _ => hm, fun h => by omega⟩
  · have : padTo a n = padTo b n := all_same (by rw [la, lb]) (fun j => by rw [padTo_at, padTo_at]; exact h1 j)
    have hm : readP a p = readP b p := by rw [← ra, ← rb, this]
    exact ⟨fun h => by omega, fun h => by omega, fun _ => hm⟩

end Go.Proofs.YteophaobcebppaaGreatDoor.dg
