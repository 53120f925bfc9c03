/- The walk of VarintApart. -/
import Derived.Test.YthcnahcnboalbaaBack
import Derived.Deep.QuietTactic
import Derived.RegionTactic
import Derived.ChangeAlike
import Derived.BigRegion
namespace Go.Proofs.Ythcnahcnboalbaa
open Go.RowKit
set_option linter.unusedVariables false
set_option linter.unusedSimpArgs false
attribute [local go_sem ↓] Go.wp_at_zero Go.wp_at_succ

theorem apart_long {n m : Int} {A : Option Addr} {k c : Nat} {w : World} (hn : 300 < k) : Calls Try.prog 8 #[.int .u64 n, .int .u64 m, .slice A k c] w fun e w' => e = .returned (.bool true) ∧ Below w.heap.size w w' := by
  go_enter Try.func8, Try.ntmps8
  go_wp2_with fail
  refine (awake_any _).mono ?_
  rintro e w1 ⟨rfl, bb⟩
  go_wp2
  go_ret
  exact ⟨rfl, bb⟩

theorem bytes_add (a b : List UInt8) : (⟨a.toArray⟩ : ByteArray) ++ ⟨b.toArray⟩ = ⟨(a ++ b).toArray⟩ := by
  apply ByteArray.ext
  simp [ByteArray.data_append]

set_option maxHeartbeats 1000000 in
theorem apart_any {n m : Int} {A : Option Addr} {k c : Nat} {l : List UInt8} {w : World} (hr : Sl w 0 w.heap.size 1 A k c (byteCells l)) (hk : k ≤ 300) (hn : 0 ≤ n ∧ n ≤ 18446744073709551615) (hm : 0 ≤ m ∧ m ≤ 18446744073709551615) :
    Calls Try.prog 8 #[.int .u64 n, .int .u64 m, .slice A k c] w fun e w' => e = .returned (.bool true) ∧ Below w.heap.size w w' := by
  obtain ⟨i0, hi0, hz0, hz1, hz2⟩ := info_parts info5
  have hl : k = l.length := by have := hr.len; rw [byteCells_length] at this; omega
  subst hl
  have v1 : vSize (n / 4) ≠ 0 := vSize_ne (by omega) (by omega)
  have v2 : vSize (m / 4) ≠ 0 := vSize_ne (by omega) (by omega)
  have P0 := fun W lo up h1 h2 => put_any (lo := lo) (up := up) (A := A) (n := l.length) (c := c) (l := l) (x := n / 4) (w := W) h1 h2 (by omega) (by omega)
  rw [vPut_ok v1] at P0
  have HP0 := Lib.hid P0
  have P1 := Lib.hid (put_nil (x := n / 4) (by omega) v1)
  have P2 := Lib.hid (put_nil (x := m / 4) (by omega) v2)
  have lB := vBytes_length (n / 4)
  have lD := vBytes_length (m / 4)
  have s8 : vSize (n / 4) ≤ 8 := by have := vSize_cases (n / 4); omega
  have t8 : vSize (m / 4) ≤ 8 := by have := vSize_cases (m / 4); omega
  have HF := Lib.hid (show (((vBytes (n / 4)).take (vBytes (m / 4)).length == vBytes (m / 4)) == (n / 4 == m / 4)) = true by
    by_cases h : n / 4 = m / 4
    · rw [h]; simp
    · have hne : ¬ (vBytes (n / 4)).take (vBytes (m / 4)).length = vBytes (m / 4) := fun h2 => h (vBytes_apart v1 v2 h2)
      rw [beq_false_of_ne hne, beq_false_of_ne h]
      rfl)
  have HF2 := Lib.hid (show (vBytes (n / 4)).length < (vBytes (m / 4)).length → ¬ n / 4 = m / 4 by
    intro h h2
    rw [h2] at h
    omega)
  generalize vBytes (n / 4) = B at *
  generalize vBytes (m / 4) = D at *
  generalize vSize (n / 4) = s at *
  generalize vSize (m / 4) = t at *
  subst lB lD
  have HR := Lib.hid hr
  clear hr v1 v2 P0
  go_enter Try.func8, Try.ntmps8
  go_wp2_with fail
  refine (awake_any _).mono ?_
  rintro e w1 ⟨rfl, bb⟩
  have q0 := run_string_of (dst := 9) (HR.out.below bb (Nat.le_refl _)) Try.underlying23 Try.underlying5 Try.underlying9
  go_wp2_with fail
  clear q0
  refine (HP0.out _ _ _ (HR.out.below bb (Nat.le_refl _)) bb.size).mono ?_
  rintro e w2 ⟨A2, c2, rfl, own2, hb2⟩
  have bb2 := bb.trans (hb2.mono bb.size)
  have z1 := bb.size
  have z2 := hb2.size
  go_wp2_with fail
  refine (P2.out _).mono ?_
  rintro e w3 ⟨A3, c3, rfl, own3, hb3⟩
  have bb3 := bb2.trans (hb3.mono (by omega))
  have z3 := hb3.size
  go_wp2_with fail
  refine (P1.out _).mono ?_
  rintro e w4 ⟨A4, c4, rfl, own4, hb4⟩
  have bb4 := bb3.trans (hb4.mono (by omega))
  have z4 := hb4.size
  have hx := ((Sl.of_own own2).below hb3 (Nat.le_refl _)).below hb4 (by omega)
  have hy := (Sl.of_own own3).below hb4 (Nat.le_refl _)
  have hz := Sl.of_own own4
  have q1 := run_string_of (dst := 9) hx Try.underlying23 Try.underlying5 Try.underlying9
  have q2 := run_string_of (dst := 9) hy Try.underlying23 Try.underlying5 Try.underlying9
  have q3 := run_string_of (dst := 9) hz Try.underlying23 Try.underlying5 Try.underlying9
  have q4 := run_string_of (dst := 9) (HR.out.below bb4 (Nat.le_refl _)) Try.underlying23 Try.underlying5 Try.underlying9
  have ha := bytes_add l B
  rw [List.length_append] at q1
  rw [← ha] at q1
  by_cases hle : D.length ≤ B.length
  · obtain ⟨A5, hcut, hs5⟩ := cut_h Try.underlying23 hi0 hz1 hz D.length _ rfl hle
    rw [Nat.mul_one, byteCells_take] at hs5
    have r5 := fun j => run_string_of (dst := 9) (hs5.drewN j) Try.underlying23 Try.underlying5 Try.underlying9
    have r2 := fun j => run_string_of (dst := 9) (hy.drewN j) Try.underlying23 Try.underlying5 Try.underlying9
    have Q := Lib.hid (And.intro (hx.drewN) (And.intro (hz.drewN) ((HR.out.below bb4 (Nat.le_refl _)).drewN)))
    clear q1 q2 q3 q4 hx hy hz hs5 own2 own3 own4 ha
    go_wp2_with fail
    go_quiet (skip)
    have q1 := run_string_of (dst := 9) (Q.out.1 nq) Try.underlying23 Try.underlying5 Try.underlying9
    have q3 := run_string_of (dst := 9) (Q.out.2.1 nq) Try.underlying23 Try.underlying5 Try.underlying9
    have q4 := run_string_of (dst := 9) (Q.out.2.2 nq) Try.underlying23 Try.underlying5 Try.underlying9
    rw [List.length_append, ← bytes_add] at q1
    clear r5 r2
    go_wp2
    go_ret
    refine ⟨?_, ?_⟩
    · show Ending.returned (Value.bool ((B.take D.length == D) == (n / 4 == m / 4))) = _
      rw [HF.out]
    · exact bb4.trans ⟨rfl, rfl, rfl, Nat.le_refl _, fun _ _ => rfl⟩
  · have hne := HF2.out (by omega)
    have hle2 : decide ((D.length : Int) ≤ (B.length : Int)) = false := by simp; omega
    have hle3 : (B.length : Int) < (D.length : Int) := by omega
    have Q := Lib.hid (And.intro (hx.drew) (And.intro (hz.drew) ((HR.out.below bb4 (Nat.le_refl _)).drew)))
    clear q1 q2 q3 q4 hx hy hz own2 own3 own4 ha
    go_wp2_with fail
    go_region
    have q1 := run_string_of (dst := 9) (Q.out.1) Try.underlying23 Try.underlying5 Try.underlying9
    have q3 := run_string_of (dst := 9) (Q.out.2.1) Try.underlying23 Try.underlying5 Try.underlying9
    have q4 := run_string_of (dst := 9) (Q.out.2.2) Try.underlying23 Try.underlying5 Try.underlying9
    rw [List.length_append, ← bytes_add] at q1
    go_wp2
    go_ret
    refine ⟨?_, bb4.trans ⟨rfl, rfl, rfl, Nat.le_refl _, fun _ _ => rfl⟩⟩
    have hb : (n / 4 == m / 4) = false := beq_false_of_ne hne
    first | rfl | (simp only [hb]; rfl) | (simp [hb])
end Go.Proofs.Ythcnahcnboalbaa
