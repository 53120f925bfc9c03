/- The calls at every statement's head. -/
import Derived.Test.YthcnahcnboalbaaK
import Derived.Test.YthcnahcnboalbaaH
namespace Go.Proofs.Ythcnahcnboalbaa
open Go.RowKit
set_option linter.unusedVariables false
set_option linter.unusedSimpArgs false
attribute [local go_sem ↓] Go.wp_at_zero Go.wp_at_succ

theorem p1 : vPut [] 37 = ([37], 0) := by decide
theorem p2 : vPut [9] 15293 = ([9, 123, 189], 0) := by decide
theorem p3 : vGet [64, 37] = (0, 0, 10) := by decide
theorem p4 : vGet [123, 189, 5] = (15293, 2, 0) := by decide
theorem p5 : vAll [37, 123, 189] = ([37, 15293], 0) := by decide
theorem p6 : vJoin [37, 15293] = ([37, 123, 189], 0) := by decide
theorem p7 : vSize (-1) = 0 := by decide
theorem p8 : vSize 4611686018427387903 = 8 := by decide

set_option maxRecDepth 100000 in
set_option maxHeartbeats 1000000 in
theorem awake_any (w : World) : Calls Try.prog 11 #[] w fun e w' => e = .returned (.bool true) ∧ Below w.heap.size w w' := by
  go_enter Try.func11, Try.ntmps11
  go_wp2_with fail
  have q1 := put_any (A := none) (n := 0) (c := 0) (l := []) (x := 37) (w := w) (Sl.empty _ 0 0 1) (Nat.zero_le _) (by omega) (by omega)
  rw [p1] at q1
  refine q1.mono ?_
  clear q1
  rintro e w1 ⟨A1, c1, rfl, hown1, b1⟩
  have s1 := Sl.of_own hown1
  go_wp2_with fail
  have q2 := put_any (x := 15293) (Sl.new w1 5 #[.int .u8 9] 1 1 1 (byteCells [9]) rfl (by omega) rfl rfl) (by simp) (by omega) (by omega)
  rw [p2] at q2
  refine q2.mono ?_
  clear q2
  rintro e w2 ⟨A2, c2, rfl, hown2, hb2⟩
  have b2 := (b1.alloc b1.size (.cells #[.int .u8 9] 5)).trans (hb2.mono (by have := b1.size; simp; omega))
  have s1 := (s1.alloc (Nat.le_refl _) (.cells #[.int .u8 9] 5)).below hb2 (by simp)
  have s2 := (Sl.of_own hown2).more (lo' := w1.heap.size) (by simp) (Nat.le_refl _)
  have z2 : w1.heap.size ≤ w2.heap.size := by have := hb2.size; simp at this; omega
  have z1 := b1.size
  clear hb2 hown1 hown2
  go_wp2_with fail
  have q3 := get_any (Sl.new w2 5 #[.int .u8 64, .int .u8 37] 1 2 2 (byteCells [64, 37]) rfl (by omega) rfl rfl)
  rw [p3] at q3
  refine q3.mono ?_
  clear q3
  rintro e w3 ⟨rfl, rfl⟩
  go_wp2_with fail
  have q4 := get_any (Sl.new (g := w2.heap.size + 1) (w2.alloc (.cells #[.int .u8 64, .int .u8 37] 5)) 5 #[.int .u8 123, .int .u8 189, .int .u8 5] 1 3 3 (byteCells [123, 189, 5]) (by simp) (by omega) rfl rfl)
  rw [p4] at q4
  refine q4.mono ?_
  clear q4
  rintro e w4 ⟨rfl, rfl⟩
  go_wp2_with fail
  have b3 := ((b2.alloc (by omega) (.cells #[.int .u8 64, .int .u8 37] 5)).alloc (by simp <;> omega) (.cells #[.int .u8 123, .int .u8 189, .int .u8 5] 5)).alloc (by simp <;> omega) (.cells #[.int .u8 37, .int .u8 123, .int .u8 189] 5)
  have s1 := ((s1.alloc (by omega) (.cells #[.int .u8 64, .int .u8 37] 5)).alloc (by simp <;> omega) (.cells #[.int .u8 123, .int .u8 189, .int .u8 5] 5)).alloc (by simp <;> omega) (.cells #[.int .u8 37, .int .u8 123, .int .u8 189] 5)
  have s2 := ((s2.alloc (by omega) (.cells #[.int .u8 64, .int .u8 37] 5)).alloc (by simp <;> omega) (.cells #[.int .u8 123, .int .u8 189, .int .u8 5] 5)).alloc (by simp <;> omega) (.cells #[.int .u8 37, .int .u8 123, .int .u8 189] 5)
  have q5 := all_any (Sl.new (g := w2.heap.size + 1 + 1) ((w2.alloc (.cells #[.int .u8 64, .int .u8 37] 5)).alloc (.cells #[.int .u8 123, .int .u8 189, .int .u8 5] 5)) 5 #[.int .u8 37, .int .u8 123, .int .u8 189] 1 3 3 (byteCells [37, 123, 189]) (by simp) (by omega) rfl rfl) (by simp) (by omega)
  rw [p5] at q5
  refine q5.mono ?_
  clear q5
  rintro e w5 ⟨A5, c5, rfl, hown5, hb5⟩
  have b5 := b3.trans (hb5.mono (by simp; omega))
  have s1 := s1.below hb5 (by simp; omega)
  have s2 := s2.below hb5 (by simp; omega)
  have s5 := Sl.of_own hown5
  have z5 : w2.heap.size ≤ w5.heap.size := by have := hb5.size; simp at this; omega
  clear hb5 hown5 b3 b2
  go_wp2_with fail
  have q6 := join_any (Sl.new w5 3 #[.int .i64 37, .int .i64 15293] 1 2 2 (intCells [37, 15293]) rfl (by omega) rfl rfl) (by simp) (by omega) (by intro x hx; simp at hx; omega)
  rw [p6] at q6
  refine q6.mono ?_
  clear q6
  rintro e w6 ⟨A6, c6, rfl, hown6, hb6⟩
  have b6 := (b5.alloc (by omega) (.cells #[.int .i64 37, .int .i64 15293] 3)).trans (hb6.mono (by simp; omega))
  have s1 := (s1.alloc (by omega) (.cells #[.int .i64 37, .int .i64 15293] 3)).below hb6 (by simp; omega)
  have s2 := (s2.alloc (by omega) (.cells #[.int .i64 37, .int .i64 15293] 3)).below hb6 (by simp; omega)
  have s5 := (s5.alloc (by omega) (.cells #[.int .i64 37, .int .i64 15293] 3)).below hb6 (by simp)
  have s6 := Sl.of_own hown6
  have z6 : w5.heap.size ≤ w6.heap.size := by have := hb6.size; simp at this; omega
  clear hb6 hown6 b5
  have t1 := run_string_of (dst := 9) s1 Try.underlying23 Try.underlying5 Try.underlying9
  have t2 := run_string_of (dst := 9) (Sl.new w6 5 #[.int .u8 37] 1 1 1 (byteCells [37]) rfl (by omega) rfl rfl) Try.underlying23 Try.underlying5 Try.underlying9
  have t3 := run_string_of (dst := 9) (s2.alloc (by omega) (.cells #[.int .u8 37] 5)) Try.underlying23 Try.underlying5 Try.underlying9
  have t4 := run_string_of (dst := 9) (Sl.new (g := w6.heap.size + 1) (w6.alloc (.cells #[.int .u8 37] 5)) 5 #[.int .u8 9, .int .u8 123, .int .u8 189] 1 3 3 (byteCells [9, 123, 189]) (by simp) (by omega) rfl rfl) Try.underlying23 Try.underlying5 Try.underlying9
  simp only [List.length_cons, List.length_nil, Nat.reduceAdd] at t1 t2 t3 t4
  have S6 := Lib.hid s6
  have S5 := Lib.hid s5
  clear s1 s2 s5 s6
  go_wp2_with fail
  have b7 := ((b6.alloc (by omega) (.cells #[.int .u8 37] 5)).alloc (by simp; omega) (.cells #[.int .u8 9, .int .u8 123, .int .u8 189] 5)).alloc (by simp; omega) (.cells #[.int .i64 37, .int .i64 15293] 3)
  have s5 := ((S5.out.alloc (by omega) (.cells #[.int .u8 37] 5)).alloc (by simp; omega) (.cells #[.int .u8 9, .int .u8 123, .int .u8 189] 5)).alloc (by simp; omega) (.cells #[.int .i64 37, .int .i64 15293] 3)
  have s6 := ((S6.out.alloc (by omega) (.cells #[.int .u8 37] 5)).alloc (by simp <;> omega) (.cells #[.int .u8 9, .int .u8 123, .int .u8 189] 5)).alloc (by simp <;> omega) (.cells #[.int .i64 37, .int .i64 15293] 3)
  refine (same_yes s5 (Sl.new (g := w6.heap.size + 1 + 1) _ 3 #[.int .i64 37, .int .i64 15293] 1 2 2 (intCells [37, 15293]) (by simp) (by omega) rfl rfl) (by simp)).mono ?_
  rintro e w7 ⟨rfl, hb7⟩
  have b7 := b7.trans (hb7.mono (by simp <;> omega))
  have s6 := s6.below hb7 (by simp <;> omega)
  have z7 : w6.heap.size ≤ w7.heap.size := by have := hb7.size; simp at this; omega
  have t5 := run_string_of (dst := 9) s6 Try.underlying23 Try.underlying5 Try.underlying9
  have t6 := run_string_of (dst := 9) (Sl.new w7 5 #[.int .u8 37, .int .u8 123, .int .u8 189] 1 3 3 (byteCells [37, 123, 189]) rfl (by omega) rfl rfl) Try.underlying23 Try.underlying5 Try.underlying9
  simp only [List.length_cons, List.length_nil, Nat.reduceAdd] at t5 t6
  clear hb7 s5 s6 S5 S6 t1 t2 t3 t4 b6
  go_wp2_with fail
  refine (size_any (by omega)).mono ?_
  rintro e w8 ⟨rfl, rfl⟩
  rw [p7]
  go_wp2_with fail
  refine (size_any (by omega)).mono ?_
  rintro e w9 ⟨rfl, rfl⟩
  rw [p8]
  go_wp2
  go_ret
  exact ⟨rfl, b7.alloc (by omega) _⟩
end Go.Proofs.Ythcnahcnboalbaa
