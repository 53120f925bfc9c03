/- The walk of VarintBack. -/
import Derived.Test.YthcnahcnboalbaaI
import Derived.Test.YthcnahcnboalbaaP
namespace Go.Proofs.Ythcnahcnboalbaa
open Go.RowKit
set_option linter.unusedVariables false
set_option linter.unusedSimpArgs false
attribute [local go_sem ↓] Go.wp_at_zero Go.wp_at_succ

theorem vPut_ok {x : Int} (h : vSize x ≠ 0) (l : List UInt8) : vPut l x = (l ++ vBytes x, 0) := by unfold vPut; rw [if_neg h]

/-- What Put onto nothing gives. -/
theorem put_nil {x : Int} (hx : -9223372036854775808 ≤ x ∧ x ≤ 9223372036854775807) (h : vSize x ≠ 0) (W : World) : Calls Try.prog 12 #[.slice none 0 0, .int .i64 x] W (RetBE W (vBytes x) 0) := by
  have := put_any (A := none) (n := 0) (c := 0) (l := []) (x := x) (w := W) (Sl.empty _ 0 0 1) (Nat.zero_le _) (by omega) hx
  rw [vPut_ok h] at this
  exact this

theorem back_long {n m : Int} {A : Option Addr} {k c : Nat} {w : World} (hn : 300 < k) : Calls Try.prog 6 #[.int .u64 n, .slice A k c, .int .u64 m] w fun e w' => e = .returned (.bool true) ∧ Below w.heap.size w w' := by
  go_enter Try.func6, Try.ntmps6
  go_wp2_with fail
  refine (awake_any _).mono ?_
  rintro e w1 ⟨rfl, bb⟩
  go_wp2
  go_ret
  exact ⟨rfl, bb⟩


set_option maxHeartbeats 1000000 in
theorem back_gt {n m : Int} {A : Option Addr} {k c : Nat} {l : List UInt8} {w : World} (hr : Sl w 0 w.heap.size 1 A k c (byteCells l)) (hk : k ≤ 300) (hn : 0 ≤ n ∧ n ≤ 18446744073709551615) (hm : 0 ≤ m ∧ m ≤ 18446744073709551615)
    (hc : m / 4 < n / 4) : Calls Try.prog 6 #[.int .u64 n, .slice A k c, .int .u64 m] w fun e w' => e = .returned (.bool true) ∧ Below w.heap.size w w' := by
  obtain ⟨i0, hi0, hz0, hz1, hz2⟩ := info_parts info5
  have hl : k = l.length := by have := hr.len; rw [byteCells_length] at this; omega
  subst hl
  have v1 : vSize (n / 4) ≠ 0 := vSize_ne (by omega) (by omega)
  have v2 : vSize (m / 4) ≠ 0 := vSize_ne (by omega) (by omega)
  have P1 := Lib.hid (put_nil (x := n / 4) (by omega) v1)
  have P2 := Lib.hid (put_nil (x := m / 4) (by omega) v2)
  have S1 := Lib.hid (fun W => size_any (x := n / 4) (w := W) (by omega))
  have G := fun W lo up A' n' c' h => get_any (lo := lo) (up := up) (A := A') (n := n') (c := c') (l := vBytes (n / 4) ++ l) (w := W) h
  rw [vGet_vBytes v1] at G
  have hG := Lib.hid G
  clear G
  have lB := vBytes_length (n / 4)
  have lD := vBytes_length (m / 4)
  have s8 : vSize (n / 4) ≤ 8 := by have := vSize_cases (n / 4); omega
  have t8 : vSize (m / 4) ≤ 8 := by have := vSize_cases (m / 4); omega
  have hfin : ((vBytes (n / 4) == vBytes (m / 4)) == (n / 4 == m / 4)) = true := by
    by_cases h : n / 4 = m / 4
    · rw [h]; simp
    · have hne : ¬ vBytes (n / 4) = vBytes (m / 4) := fun h2 => h (vBytes_inj v1 v2 h2)
      rw [beq_false_of_ne hne, beq_false_of_ne h]
      rfl
  have HF := Lib.hid hfin
  clear hfin
  generalize vBytes (n / 4) = B at *
  generalize vBytes (m / 4) = D at *
  generalize vSize (n / 4) = s at *
  generalize vSize (m / 4) = t at *
  subst lB lD
  have HR := Lib.hid hr
  clear hr v1 v2
  go_enter Try.func6, Try.ntmps6
  go_wp2_with fail
  refine (awake_any _).mono ?_
  rintro e w1 ⟨rfl, bb⟩
  go_wp2_with fail
  refine (P1.out _).mono ?_
  rintro e w2 ⟨A2, c2, rfl, own2, hb2⟩
  have bb2 := bb.trans (hb2.mono bb.size)
  have s2 := Sl.of_own own2
  have z1 := bb.size
  have z2 := hb2.size
  go_wp2_with (at_builtin; first
    | (refine wpList_append_sl _ rfl (.tmp 37) (.tmp 38) _ rfl w2.heap.size 5 i0 _ 1 1 Try.underlying23 hi0 hz0 hz1 hz2 rfl (by omega) _ B.length _ rfl own3 0 w.heap.size A l.length c _ rfl (HR.out.below (bb2.trans (hb3.mono (by omega))) (Nat.le_refl _)) (byteCells_one _) (B.length + l.length) rfl _ (byteCells_append B l).symm (by unfold maxLen; omega) (by omega) z3 ?_; intro A4 c4 w4 own4 hg4; have hb4 := hb3.grown hg4 z3 (fun k hk => (own3.lt k hk).1))
    | (refine wpList_append_sl _ rfl (.tmp 35) (.tmp 36) _ rfl w2.heap.size 5 i0 _ 1 1 Try.underlying23 hi0 hz0 hz1 hz2 rfl (by omega) (.slice (some ⟨w2.heap.size, 0, none⟩) 0 0) 0 [] rfl (own_made rfl (Nat.le_refl _)) w1.heap.size w2.heap.size A2 B.length c2 _ rfl (s2.alloc (Nat.le_refl _) _) (byteCells_one _) B.length (by omega) _ rfl (by unfold maxLen; omega) (by omega) (by simp) ?_; intro A3 c3 w3 own3 hg3; have hb3 := ((Below.refl w2.heap.size w2).alloc (Nat.le_refl _) _).grown hg3 (by simp) (fun k hk => by simp [Value.ownBlock] at hk; omega); have z3 := hb3.size))
  have s4 := Sl.of_own own4
  rw [← List.length_append] at s4
  have z4 := hb4.size
  have bb4 := bb2.trans (hb4.mono (by omega))
  have s2 := s2.below hb4 (Nat.le_refl _)
  have hlapp : (B ++ l).length = B.length + l.length := List.length_append
  rw [hlapp] at s4
  refine (hG.out _ _ _ _ _ _ s4).mono ?_
  rintro e w5 ⟨rfl, rfl⟩
  go_wp2_with fail
  refine (P2.out _).mono ?_
  rintro e w6 ⟨A6, c6, rfl, own6, hb6⟩
  have bb6 := bb4.trans (hb6.mono (by omega))
  have q1 := run_string_of (dst := 9) (s2.below hb6 z4) Try.underlying23 Try.underlying5 Try.underlying9
  have q2 := run_string_of (dst := 9) (Sl.of_own own6) Try.underlying23 Try.underlying5 Try.underlying9
  clear s2 s4 hlapp own6 own4
  go_wp2_with fail
  refine (S1.out _).mono ?_
  rintro e w7 ⟨rfl, rfl⟩
  go_wp2
  go_ret
  refine ⟨?_, bb6⟩
  show Ending.returned (Value.bool ((B == D) == (n / 4 == m / 4))) = _
  rw [HF.out]

set_option maxHeartbeats 1000000 in
theorem back_le {n m : Int} {A : Option Addr} {k c : Nat} {l : List UInt8} {w : World} (hr : Sl w 0 w.heap.size 1 A k c (byteCells l)) (hk : k ≤ 300) (hn : 0 ≤ n ∧ n ≤ 18446744073709551615) (hm : 0 ≤ m ∧ m ≤ 18446744073709551615)
    (hc : ¬ m / 4 < n / 4) : Calls Try.prog 6 #[.int .u64 n, .slice A k c, .int .u64 m] w fun e w' => e = .returned (.bool true) ∧ Below w.heap.size w w' := by
  obtain ⟨i0, hi0, hz0, hz1, hz2⟩ := info_parts info5
  have hl : k = l.length := by have := hr.len; rw [byteCells_length] at this; omega
  subst hl
  have v1 : vSize (n / 4) ≠ 0 := vSize_ne (by omega) (by omega)
  have v2 : vSize (m / 4) ≠ 0 := vSize_ne (by omega) (by omega)
  have P1 := Lib.hid (put_nil (x := n / 4) (by omega) v1)
  have P2 := Lib.hid (put_nil (x := m / 4) (by omega) v2)
  have S1 := Lib.hid (fun W => size_any (x := n / 4) (w := W) (by omega))
  have G := fun W lo up A' n' c' h => get_any (lo := lo) (up := up) (A := A') (n := n') (c := c') (l := vBytes (n / 4) ++ l) (w := W) h
  rw [vGet_vBytes v1] at G
  have hG := Lib.hid G
  clear G
  have lB := vBytes_length (n / 4)
  have lD := vBytes_length (m / 4)
  have s8 : vSize (n / 4) ≤ 8 := by have := vSize_cases (n / 4); omega
  have t8 : vSize (m / 4) ≤ 8 := by have := vSize_cases (m / 4); omega
  have hle := vSize_mono (x := n / 4) (y := m / 4) (by omega) v2 v1
  have hfin : ((vBytes (n / 4) == vBytes (m / 4)) == (n / 4 == m / 4)) = true := by
    by_cases h : n / 4 = m / 4
    · rw [h]; simp
    · have hne : ¬ vBytes (n / 4) = vBytes (m / 4) := fun h2 => h (vBytes_inj v1 v2 h2)
      rw [beq_false_of_ne hne, beq_false_of_ne h]
      rfl
  have HF := Lib.hid hfin
  clear hfin
  generalize vBytes (n / 4) = B at *
  generalize vBytes (m / 4) = D at *
  generalize vSize (n / 4) = s at *
  generalize vSize (m / 4) = t at *
  subst lB lD
  have HR := Lib.hid hr
  clear hr v1 v2
  go_enter Try.func6, Try.ntmps6
  go_wp2_with fail
  refine (awake_any _).mono ?_
  rintro e w1 ⟨rfl, bb⟩
  go_wp2_with fail
  refine (P1.out _).mono ?_
  rintro e w2 ⟨A2, c2, rfl, own2, hb2⟩
  have bb2 := bb.trans (hb2.mono bb.size)
  have s2 := Sl.of_own own2
  have z1 := bb.size
  have z2 := hb2.size
  go_wp2_with (at_builtin; first
    | (refine wpList_append_sl _ rfl (.tmp 37) (.tmp 38) _ rfl w2.heap.size 5 i0 _ 1 1 Try.underlying23 hi0 hz0 hz1 hz2 rfl (by omega) _ B.length _ rfl own3 0 w.heap.size A l.length c _ rfl (HR.out.below (bb2.trans (hb3.mono (by omega))) (Nat.le_refl _)) (byteCells_one _) (B.length + l.length) rfl _ (byteCells_append B l).symm (by unfold maxLen; omega) (by omega) z3 ?_; intro A4 c4 w4 own4 hg4; have hb4 := hb3.grown hg4 z3 (fun k hk => (own3.lt k hk).1))
    | (refine wpList_append_sl _ rfl (.tmp 35) (.tmp 36) _ rfl w2.heap.size 5 i0 _ 1 1 Try.underlying23 hi0 hz0 hz1 hz2 rfl (by omega) (.slice (some ⟨w2.heap.size, 0, none⟩) 0 0) 0 [] rfl (own_made rfl (Nat.le_refl _)) w1.heap.size w2.heap.size A2 B.length c2 _ rfl (s2.alloc (Nat.le_refl _) _) (byteCells_one _) B.length (by omega) _ rfl (by unfold maxLen; omega) (by omega) (by simp) ?_; intro A3 c3 w3 own3 hg3; have hb3 := ((Below.refl w2.heap.size w2).alloc (Nat.le_refl _) _).grown hg3 (by simp) (fun k hk => by simp [Value.ownBlock] at hk; omega); have z3 := hb3.size))
  have s4 := Sl.of_own own4
  rw [← List.length_append] at s4
  have z4 := hb4.size
  have bb4 := bb2.trans (hb4.mono (by omega))
  have s2 := s2.below hb4 (Nat.le_refl _)
  have hlapp : (B ++ l).length = B.length + l.length := List.length_append
  rw [hlapp] at s4
  refine (hG.out _ _ _ _ _ _ s4).mono ?_
  rintro e w5 ⟨rfl, rfl⟩
  go_wp2_with fail
  refine (P2.out _).mono ?_
  rintro e w6 ⟨A6, c6, rfl, own6, hb6⟩
  have bb6 := bb4.trans (hb6.mono (by omega))
  have q1 := run_string_of (dst := 9) (s2.below hb6 z4) Try.underlying23 Try.underlying5 Try.underlying9
  have q2 := run_string_of (dst := 9) (Sl.of_own own6) Try.underlying23 Try.underlying5 Try.underlying9
  clear s2 s4 hlapp own6 own4
  go_wp2_with fail
  refine (S1.out _).mono ?_
  rintro e w7 ⟨rfl, rfl⟩
  go_wp2
  go_ret
  refine ⟨?_, bb6⟩
  show Ending.returned (Value.bool ((B == D) == (n / 4 == m / 4))) = _
  rw [HF.out]

theorem back_any {n m : Int} {A : Option Addr} {k c : Nat} {l : List UInt8} {w : World} (hr : Sl w 0 w.heap.size 1 A k c (byteCells l)) (hk : k ≤ 300) (hn : 0 ≤ n ∧ n ≤ 18446744073709551615) (hm : 0 ≤ m ∧ m ≤ 18446744073709551615) :
    Calls Try.prog 6 #[.int .u64 n, .slice A k c, .int .u64 m] w fun e w' => e = .returned (.bool true) ∧ Below w.heap.size w w' := by
  by_cases h1 : m / 4 < n / 4
  · exact back_gt hr hk hn hm h1
  · exact back_le hr hk hn hm h1
end Go.Proofs.Ythcnahcnboalbaa
