/- The walks of VarintNames, VarintTells and VarintLists. -/
import Derived.Test.YthcnahcnboalbaaI
namespace Go.Proofs.Ythcnahcnboalbaa
open Go.RowKit
set_option linter.unusedVariables false
set_option linter.unusedSimpArgs false
attribute [local go_sem ↓] Go.wp_at_zero Go.wp_at_succ

theorem names_any (w : World) : Calls Try.prog 3 #[] w fun e w' => e = .returned (.bool true) ∧ Below w.heap.size w w' := by
  go_enter Try.func3, Try.ntmps3
  go_wp2_with fail
  refine (awake_any _).mono ?_
  rintro e w1 ⟨rfl, bb⟩
  go_wp2
  go_ret
  exact ⟨rfl, bb⟩

theorem tells_long {A : Option Addr} {n c : Nat} {x : Int} {w : World} (hn : 300 < n) : Calls Try.prog 4 #[.slice A n c, .int .i64 x] w fun e w' => e = .returned (.bool true) ∧ Below w.heap.size w w' := by
  go_enter Try.func4, Try.ntmps4
  go_wp2_with fail
  refine (awake_any _).mono ?_
  rintro e w1 ⟨rfl, bb⟩
  go_wp2
  go_ret
  exact ⟨rfl, bb⟩

set_option maxHeartbeats 1000000 in
theorem tells_short {A : Option Addr} {n c : Nat} {x : Int} {l : List UInt8} {w : World} (hr : Sl w 0 w.heap.size 1 A n c (byteCells l)) (hn : n ≤ 300) (hx : -9223372036854775808 ≤ x ∧ x ≤ 9223372036854775807) :
    Calls Try.prog 4 #[.slice A n c, .int .i64 x] w fun e w' => e = .returned (.bool true) ∧ Below w.heap.size w w' := by
  have P1 := Lib.hid (fun W lo up h1 h2 => put_any (lo := lo) (up := up) (A := A) (n := n) (c := c) (l := l) (x := x) (w := W) h1 h2 (by omega) hx)
  have P2 := Lib.hid (fun W lo up h1 h2 => rput_any (lo := lo) (up := up) (A := A) (n := n) (c := c) (l := l) (x := x) (w := W) h1 h2 (by omega))
  have G1 := Lib.hid (fun W lo up (h : Sl W lo up 1 A n c (byteCells l)) => get_any h)
  have G2 := Lib.hid (fun W lo up (h : Sl W lo up 1 A n c (byteCells l)) => rget_any h)
  have S1 := Lib.hid (fun W => size_any (w := W) hx)
  have S2 := Lib.hid (fun W => rsize_any (x := x) (w := W))
  obtain ⟨⟨pl, pe⟩, hp⟩ : ∃ q, q = vPut l x := ⟨_, rfl⟩
  obtain ⟨⟨gx, gs, ge⟩, hg⟩ : ∃ q, q = vGet l := ⟨_, rfl⟩
  rw [← hp] at P1 P2
  rw [← hg] at G1 G2
  clear hp hg
  generalize vSize x = s at *
  have HR := Lib.hid hr
  clear hr
  go_enter Try.func4, Try.ntmps4
  go_wp2_with fail
  refine (awake_any _).mono ?_
  rintro e w1 ⟨rfl, bb⟩
  go_wp2_with fail
  refine (P1.out _ _ _ (HR.out.below bb (Nat.le_refl _)) bb.size).mono ?_
  rintro e w2 ⟨X, cx, rfl, ox, hb2⟩
  try simp only at ox
  have bb2 := bb.trans (hb2.mono bb.size)
  go_wp2_with fail
  refine (P2.out _ _ _ (HR.out.below bb2 (Nat.le_refl _)) bb2.size).mono ?_
  rintro e w3 ⟨Y, cy, rfl, oy, hb3⟩
  try simp only at oy
  have bb3 := bb2.trans (hb3.mono bb2.size)
  go_wp2_with fail
  refine (G1.out _ _ _ (HR.out.below bb3 (Nat.le_refl _))).mono ?_
  rintro e w4 ⟨rfl, rfl⟩
  go_wp2_with fail
  refine (G2.out _ _ _ (HR.out.below bb3 (Nat.le_refl _))).mono ?_
  rintro e w5 ⟨rfl, rfl⟩
  have q1 := run_string_of (dst := 9) ((Sl.of_own ox).below hb3 (Nat.le_refl _)) Try.underlying23 Try.underlying5 Try.underlying9
  have q2 := run_string_of (dst := 9) (Sl.of_own oy) Try.underlying23 Try.underlying5 Try.underlying9
  go_wp2_with fail
  refine (S1.out _).mono ?_
  rintro e w6 ⟨rfl, rfl⟩
  go_wp2_with fail
  refine (S2.out _).mono ?_
  rintro e w7 ⟨rfl, rfl⟩
  go_wp2
  go_ret
  exact ⟨rfl, bb3⟩

theorem lists_long {A A2 : Option Addr} {n c n2 c2 : Nat} {w : World} (hn : 100 < n ∨ 300 < n2) : Calls Try.prog 5 #[.slice A n c, .slice A2 n2 c2] w fun e w' => e = .returned (.bool true) ∧ Below w.heap.size w w' := by
  go_enter Try.func5, Try.ntmps5
  go_wp2_with fail
  refine (awake_any _).mono ?_
  rintro e w1 ⟨rfl, bb⟩
  rcases hn with h | h
  · go_wp2
    all_goals
      go_ret
      exact ⟨rfl, bb⟩
  · go_wp2
    all_goals
      go_ret
      exact ⟨rfl, bb⟩

theorem vAllF_le : ∀ (k : Nat) (l : List UInt8) (xs : List Int), vAllF k l = some xs → xs.length ≤ l.length
  | k, [], xs, h => by rw [vAllF_nil] at h; injection h with h; subst h; simp
  | 0, _ :: _, xs, h => by cases h
  | k + 1, b :: r, xs, h => by
    rw [vAllF_cons (by simp)] at h
    rcases vGet_cases (b :: r) with ⟨h0, h1, h2⟩ | h0
    · rw [if_pos h0] at h
      cases h3 : vAllF k ((b :: r).drop (vGet (b :: r)).2.1) with
      | none => rw [h3] at h; cases h
      | some ys =>
        rw [h3] at h
        injection h with h
        subst h
        have := vAllF_le k _ _ h3
        rw [List.length_drop] at this
        simp only [List.length_cons] at this h2 ⊢
        omega
    · rw [h0] at h
      cases h
theorem vAll_le (l : List UInt8) : (vAll l).1.length ≤ l.length := by
  unfold vAll
  cases h : vAllF l.length l with
  | none => simp
  | some xs => exact vAllF_le _ _ _ h

set_option maxHeartbeats 1000000 in
theorem lists_short {A A2 : Option Addr} {n c n2 c2 : Nat} {l : List Int} {b : List UInt8} {w : World} (hr : Sl w 0 w.heap.size 1 A n c (intCells l)) (hr2 : Sl w 0 w.heap.size 1 A2 n2 c2 (byteCells b)) (hn : n ≤ 100) (hn2 : n2 ≤ 300) (hl : ∀ x ∈ l, -9223372036854775808 ≤ x ∧ x ≤ 9223372036854775807) :
    Calls Try.prog 5 #[.slice A n c, .slice A2 n2 c2] w fun e w' => e = .returned (.bool true) ∧ Below w.heap.size w w' := by
  have P1 := Lib.hid (fun W lo up h1 h2 => join_any (lo := lo) (up := up) (A := A) (n := n) (c := c) (l := l) (w := W) h1 h2 (by omega) hl)
  have P2 := Lib.hid (fun W lo up h1 h2 => rjoin_any (lo := lo) (up := up) (A := A) (n := n) (c := c) (l := l) (w := W) h1 h2 (by omega))
  have G1 := Lib.hid (fun W lo up (h : Sl W lo up 1 A2 n2 c2 (byteCells b)) hu => all_any h hu (by omega))
  have G2 := Lib.hid (fun W lo up (h : Sl W lo up 1 A2 n2 c2 (byteCells b)) hu => rall_any h hu (by omega))
  have hal : (vAll b).1.length ≤ 300 := by have := vAll_le b; have := hr2.len; rw [byteCells_length] at this; omega
  obtain ⟨⟨pl, pe⟩, hp⟩ : ∃ q, q = vJoin l := ⟨_, rfl⟩
  obtain ⟨⟨gx, ge⟩, hg⟩ : ∃ q, q = vAll b := ⟨_, rfl⟩
  rw [← hp] at P1 P2
  rw [← hg] at G1 G2 hal
  clear hp hg
  have HR := Lib.hid hr
  have HR2 := Lib.hid hr2
  clear hr hr2 hl
  go_enter Try.func5, Try.ntmps5
  go_wp2_with fail
  refine (awake_any _).mono ?_
  rintro e w1 ⟨rfl, bb⟩
  go_wp2_with fail
  refine (P1.out _ _ _ (HR.out.below bb (Nat.le_refl _)) bb.size).mono ?_
  rintro e w2 ⟨X, cx, rfl, ox, hb2⟩
  try simp only at ox
  have bb2 := bb.trans (hb2.mono bb.size)
  go_wp2_with fail
  refine (P2.out _ _ _ (HR.out.below bb2 (Nat.le_refl _)) bb2.size).mono ?_
  rintro e w3 ⟨Y, cy, rfl, oy, hb3⟩
  try simp only at oy
  have bb3 := bb2.trans (hb3.mono bb2.size)
  go_wp2_with fail
  refine (G1.out _ _ _ (HR2.out.below bb3 (Nat.le_refl _)) bb3.size).mono ?_
  rintro e w4 ⟨Z, cz, rfl, oz, hb4⟩
  try simp only at oz
  have bb4 := bb3.trans (hb4.mono bb3.size)
  go_wp2_with fail
  refine (G2.out _ _ _ (HR2.out.below bb4 (Nat.le_refl _)) bb4.size).mono ?_
  rintro e w5 ⟨V, cv, rfl, ov, hb5⟩
  try simp only at ov
  have bb5 := bb4.trans (hb5.mono bb4.size)
  have z3 := hb3.size
  have z4 := hb4.size
  have q1 := run_string_of (dst := 9) (((Sl.of_own ox).below hb3 (Nat.le_refl _)).below (hb4.trans (hb5.mono z4)) z3) Try.underlying23 Try.underlying5 Try.underlying9
  have q2 := run_string_of (dst := 9) ((Sl.of_own oy).below (hb4.trans (hb5.mono z4)) (Nat.le_refl _)) Try.underlying23 Try.underlying5 Try.underlying9
  have sz := (Sl.of_own oz).below hb5 (Nat.le_refl _)
  have sv := Sl.of_own ov
  have Q := Lib.hid (And.intro sz sv)
  clear sz sv oz ov ox oy
  go_wp2_with fail
  refine (same_yes Q.out.1 Q.out.2 (by first | omega | (simp only at hal; omega))).mono ?_
  rintro e w6 ⟨rfl, hb6⟩
  go_wp2
  go_ret
  exact ⟨rfl, bb5.trans (hb6.mono bb5.size)⟩
end Go.Proofs.Ythcnahcnboalbaa
