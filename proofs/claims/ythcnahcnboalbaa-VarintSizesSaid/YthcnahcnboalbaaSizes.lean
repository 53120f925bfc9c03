/- The walk of VarintSizes. -/
import Derived.Test.YthcnahcnboalbaaBack
import Derived.Test.YthcnahcnboalbaaQ
namespace Go.Proofs.Ythcnahcnboalbaa
open Go.RowKit
set_option linter.unusedVariables false
set_option linter.unusedSimpArgs false
attribute [local go_sem ↓] Go.wp_at_zero Go.wp_at_succ

theorem put_nil_no {x : Int} (hx : -9223372036854775808 ≤ x ∧ x ≤ 9223372036854775807) (h : vSize x = 0) (W : World) : Calls Try.prog 12 #[.slice none 0 0, .int .i64 x] W (RetBE W [] 10) := by
  have := put_any (A := none) (n := 0) (c := 0) (l := []) (x := x) (w := W) (Sl.empty _ 0 0 1) (Nat.zero_le _) (by omega) hx
  unfold vPut at this
  rw [if_pos h] at this
  exact this

set_option maxHeartbeats 1000000 in
theorem sizes_a {a b k : Int} {w : World} (ha : -9223372036854775808 ≤ a ∧ a ≤ 9223372036854775807) (hb : -9223372036854775808 ≤ b ∧ b ≤ 9223372036854775807) (h : vSize a = 0) :
    Calls Try.prog 9 #[.int .i64 a, .int .i64 b, .int .u8 k] w fun e w' => e = .returned (.bool true) ∧ Below w.heap.size w w' := by
  have P1 := Lib.hid (put_nil_no ha h)
  have P2 := Lib.hid (fun W => put_any (A := none) (n := 0) (c := 0) (l := []) (x := b) (w := W) (Sl.empty _ 0 0 1) (Nat.zero_le _) (by omega) hb)
  have S1 := Lib.hid (fun W => size_any (w := W) ha)
  rw [h] at S1
  generalize vPut [] b = p at *
  go_enter Try.func9, Try.ntmps9
  go_wp2_with fail
  refine (awake_any _).mono ?_
  rintro e w1 ⟨rfl, bb⟩
  go_wp2_with fail
  refine (P1.out _).mono ?_
  rintro e w2 ⟨A2, c2, rfl, own2, hb2⟩
  have bb2 := bb.trans (hb2.mono bb.size)
  go_wp2_with fail
  refine (P2.out _).mono ?_
  rintro e w3 ⟨A3, c3, rfl, own3, hb3⟩
  have bb3 := bb2.trans (hb3.mono bb2.size)
  go_wp2_with fail
  refine (S1.out _).mono ?_
  rintro e w4 ⟨rfl, rfl⟩
  go_wp2
  go_ret
  exact ⟨rfl, bb3⟩

set_option maxHeartbeats 1000000 in
theorem sizes_b {a b k : Int} {w : World} (ha : -9223372036854775808 ≤ a ∧ a ≤ 9223372036854775807) (hb : -9223372036854775808 ≤ b ∧ b ≤ 9223372036854775807) (h0 : vSize a ≠ 0) (h : vSize b = 0) :
    Calls Try.prog 9 #[.int .i64 a, .int .i64 b, .int .u8 k] w fun e w' => e = .returned (.bool true) ∧ Below w.heap.size w w' := by
  have P1 := Lib.hid (put_nil ha h0)
  have P2 := Lib.hid (put_nil_no hb h)
  have S1 := Lib.hid (fun W => size_any (w := W) ha)
  have S2 := Lib.hid (fun W => size_any (w := W) hb)
  rw [h] at S2
  have h1 : ¬ ((vSize a : Nat) : Int) = 0 := by omega
  generalize vSize a = s at *
  go_enter Try.func9, Try.ntmps9
  go_wp2_with fail
  refine (awake_any _).mono ?_
  rintro e w1 ⟨rfl, bb⟩
  go_wp2_with fail
  refine (P1.out _).mono ?_
  rintro e w2 ⟨A2, c2, rfl, own2, hb2⟩
  have bb2 := bb.trans (hb2.mono bb.size)
  go_wp2_with fail
  refine (P2.out _).mono ?_
  rintro e w3 ⟨A3, c3, rfl, own3, hb3⟩
  have bb3 := bb2.trans (hb3.mono bb2.size)
  go_wp2_with fail
  refine (S1.out _).mono ?_
  rintro e w4 ⟨rfl, rfl⟩
  go_wp2_with fail
  refine (S2.out _).mono ?_
  rintro e w5 ⟨rfl, rfl⟩
  go_wp2
  go_ret
  exact ⟨rfl, bb3⟩

set_option maxHeartbeats 1000000 in
theorem sizes_ok {a b k : Int} {w : World} (ha : -9223372036854775808 ≤ a ∧ a ≤ 9223372036854775807) (hb : -9223372036854775808 ≤ b ∧ b ≤ 9223372036854775807) (hk : 0 ≤ k ∧ k ≤ 255) (h1 : vSize a ≠ 0) (h2 : vSize b ≠ 0) :
    Calls Try.prog 9 #[.int .i64 a, .int .i64 b, .int .u8 k] w fun e w' => e = .returned (.bool true) ∧ Below w.heap.size w w' := by
  obtain ⟨i0, hi0, hz0, hz1, hz2⟩ := info_parts info5
  have P1 := Lib.hid (put_nil ha h1)
  have P2 := Lib.hid (put_nil hb h2)
  have S1 := Lib.hid (fun W => size_any (w := W) ha)
  have S2 := Lib.hid (fun W => size_any (w := W) hb)
  have lA := vBytes_length a
  have lB := vBytes_length b
  obtain ⟨j, hj, hjs⟩ : ∃ j : Nat, Int.tmod k (vSize a : Int) = j ∧ j < vSize a := by
    have hm : Int.tmod k (vSize a : Int) = k % (vSize a : Int) := Int.tmod_eq_emod_of_nonneg (by omega)
    have h3 : 0 ≤ k % (vSize a : Int) := Int.emod_nonneg _ (by omega)
    have h4 : k % (vSize a : Int) < vSize a := Int.emod_lt_of_pos _ (by omega)
    exact ⟨(k % (vSize a : Int)).toNat, by omega, by omega⟩
  have G := fun W lo up A n c (h : Sl W lo up 1 A n c (byteCells ((vBytes a).take j))) => get_any h
  rw [vGet_cut h1 hjs] at G
  have HG := Lib.hid G
  clear G
  have hcase : (vSize a = vSize b ∧ Op.bytesLess (vBytes a) (vBytes b) = decide (a < b)) ∨ (¬ vSize a = vSize b) := by
    by_cases h : vSize a = vSize b
    · exact .inl ⟨h, vBytes_less h1 h⟩
    · exact .inr h
  have hord : b < a ∨ (¬ b < a ∧ vSize a ≤ vSize b) := by
    by_cases h : b < a
    · exact .inl h
    · exact .inr ⟨h, vSize_mono (by omega) h2 h1⟩
  have s8 : vSize a ≤ 8 := by have := vSize_cases a; omega
  have t8 : vSize b ≤ 8 := by have := vSize_cases b; omega
  generalize vBytes a = X at *
  generalize vBytes b = Y at *
  generalize vSize a = s at *
  generalize vSize b = t at *
  subst lA lB
  have Hcase := Lib.hid hcase
  have Hord := Lib.hid hord
  clear hcase hord
  have n1 : ¬ ((X.length : Nat) : Int) = 0 := by omega
  have n2 : ¬ ((Y.length : Nat) : Int) = 0 := by omega
  go_enter Try.func9, Try.ntmps9
  go_wp2_with fail
  refine (awake_any _).mono ?_
  rintro e w1 ⟨rfl, bb⟩
  go_wp2_with fail
  refine (P1.out _).mono ?_
  rintro e w2 ⟨A2, c2, rfl, own2, hb2⟩
  have bb2 := bb.trans (hb2.mono bb.size)
  go_wp2_with fail
  refine (P2.out _).mono ?_
  rintro e w3 ⟨A3, c3, rfl, own3, hb3⟩
  have bb3 := bb2.trans (hb3.mono bb2.size)
  have sx := (Sl.of_own own2).below hb3 (Nat.le_refl _)
  have sy := Sl.of_own own3
  obtain ⟨A5, hcut, hs5⟩ := cut_h Try.underlying23 hi0 hz1 sx j _ rfl (by omega)
  rw [Nat.mul_one, byteCells_take] at hs5
  have q1 := run_string_of (dst := 9) sx Try.underlying23 Try.underlying5 Try.underlying9
  have q2 := run_string_of (dst := 9) sy Try.underlying23 Try.underlying5 Try.underlying9
  clear own2 own3 sx sy
  go_wp2_with fail
  refine (S1.out _).mono ?_
  rintro e w4 ⟨rfl, rfl⟩
  go_wp2_with fail
  refine (S2.out _).mono ?_
  rintro e w5 ⟨rfl, rfl⟩
  go_wp2_with fail
  refine (HG.out _ _ _ _ _ _ hs5).mono ?_
  rintro e w6 ⟨rfl, rfl⟩
  clear hs5
  rcases Hcase.out with ⟨hst, hless⟩ | hst
  · rw [hst] at q1 hcut
    rw [hst]
    clear hst
    rcases Hord.out with h | ⟨h, hle⟩
    all_goals
      try clear hle
      go_wp2
      go_ret
      exact ⟨rfl, bb3⟩
  · have hst2 : ¬ (X.length : Int) = Y.length := by omega
    rcases Hord.out with h | ⟨h, hle⟩
    all_goals
      go_wp2
      go_ret
      exact ⟨rfl, bb3⟩

theorem sizes_any {a b k : Int} {w : World} (ha : -9223372036854775808 ≤ a ∧ a ≤ 9223372036854775807) (hb : -9223372036854775808 ≤ b ∧ b ≤ 9223372036854775807) (hk : 0 ≤ k ∧ k ≤ 255) :
    Calls Try.prog 9 #[.int .i64 a, .int .i64 b, .int .u8 k] w fun e w' => e = .returned (.bool true) ∧ Below w.heap.size w w' := by
  by_cases h1 : vSize a = 0
  · exact sizes_a ha hb h1
  by_cases h2 : vSize b = 0
  · exact sizes_b ha hb h1 h2
  exact sizes_ok ha hb hk h1 h2
end Go.Proofs.Ythcnahcnboalbaa
