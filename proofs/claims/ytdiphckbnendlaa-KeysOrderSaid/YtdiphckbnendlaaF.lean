/- The walks of keys.Part and of the document's Part. -/
import Derived.Test.YtdiphckbnendlaaD
import Derived.BigQuiet
import Derived.Deep.QuietTactic
namespace Go.Proofs.Ytdiphckbnendlaa
set_option linter.unusedVariables false
open Go.RowKit
attribute [local go_sem ↓] Go.wp_at_zero Go.wp_at_succ

/-- What a place, bytes in memory of the callee's own, and whether there are any, are handed back as. -/
def RetP (w : World) (f : Int) (l : List UInt8) (b : Bool) (e : Ending) (w' : World) : Prop :=
  ∃ A c, e = .returned (.tuple #[.int .i64 f, .slice A l.length c, .bool b]) ∧ Sl w' w.heap.size w'.heap.size 1 A l.length c (byteCells l) ∧ Below w.heap.size w w'

theorem part_in {lo up : Nat} {f t : Int} {A : Option Addr} {n c : Nat} {l : List UInt8} {w : World} (hr : Sl w lo up 1 A n c (byteCells l)) (hup : up ≤ w.heap.size) (k j : Nat)
    (hk : k ≤ (kOf f l).2.length) (ht : -9223372036854775808 ≤ t ∧ t ≤ 9223372036854775807)
    (hmin : (if t < ((kOf f l).2.length : Int) - k then t else ((kOf f l).2.length : Int) - k) = j) (hj0 : 0 < j) :
    Calls Try.prog 11 #[.agg #[.int .i64 f, .slice A n c], .int .i64 ((kOf f l).1 + k), .int .i64 t] w (RetP w ((kOf f l).1 + k) (((kOf f l).2.drop k).take j) true) := by
  have hl : n = l.length := by have := hr.len; rw [byteCells_length] at this; omega
  subst hl
  have hle := kOf_le f l
  have hof := fun W lo up h1 h2 => of_any (lo := lo) (up := up) (f := f) (A := A) (n := l.length) (c := c) (l := l) (w := W) h1 h2
  generalize (kOf f l).1 = f1 at *
  generalize (kOf f l).2 = l1 at *
  obtain ⟨hle1, hle2, hle3⟩ := hle
  have Hof := Lib.hid hof
  clear hof
  go_enter Try.func11, Try.ntmps11
  go_wp2_with fail
  have a0 : Blk (w.alloc (.cells #[.int .i64 f, .slice A l.length c] 24)) w.heap.size 24 #[.int .i64 f, .slice A l.length c] := Blk.new _ _ _ rfl
  have ar := hr.alloc hup (.cells #[.int .i64 f, .slice A l.length c] 24)
  have ab := (Below.refl w.heap.size w).alloc (Nat.le_refl _) (.cells #[.int .i64 f, .slice A l.length c] 24)
  refine (Hof.out _ _ _ ar (by simp; omega)).mono ?_
  rintro e w1 ⟨A1, c1, rfl, hown, hb⟩
  have b0 := a0.later hb
  have bb := ab.trans (hb.mono (by simp))
  have hz : w.heap.size + 1 ≤ w1.heap.size := by have := hb.size; simp at this; omega
  have ⟨hc0, he0⟩ := b0.rules
  have hown := own_more (base' := w.heap.size + 1) hown (by simp)
  obtain ⟨i0, hi0, hz0, hz1, hz2⟩ := info_parts info5
  have hcap := (Sl.of_own hown).le
  have d0 := (b0.set_ 0 (.int .i64 f1)).set_ 1 (.slice A1 l1.length c1)
  have hjl : k + j ≤ l1.length := by split at hmin <;> omega
  obtain ⟨A3, hcut, hsl⟩ := cut_lhm Try.underlying22 hi0 hz1 (Sl.of_own hown) k j (k + j) (k : Int) ((k : Int) + j) ((k : Int) + j) rfl rfl (by omega) hjl (by omega) (by omega)
  rw [Nat.mul_one, Nat.mul_one, byteCells_drop, byteCells_take, show k + j - k = j from by omega] at hsl
  rw [show k + j - k = j from by omega] at hcut
  have hsub : f1 + (k : Int) - f1 = k := by omega
  have h1 : ¬ f1 + (k : Int) < f1 := by omega
  have h2 : ¬ f1 + (l1.length : Int) < f1 + k := by omega
  have h3 : ¬ (j : Int) ≤ 0 := by omega
  clear a0 ar ab hb
  go_wp2
  have hw : IntKind.i64.wrap ((k : Int) + j) = (k : Int) + j := IntWalk.i64_in _ (by omega)
  go_region_held3 (fun w' => w'.cell? ⟨w.heap.size, 0, none⟩ = some (.int .i64 f1) ∧ w'.cell? ⟨w.heap.size, 1, none⟩ = some (.slice A1 l1.length c1)) (first | exact ⟨d0.rules.1 0, d0.rules.1 1⟩ | go_keep) (fail)
  clear hw
  go_wp2
  go_ret3
  refine ⟨A3, j, (by rw [List.length_take, List.length_drop, Nat.min_eq_left (by omega)]; rfl), ?_, ?_⟩
  · rw [List.length_take, List.length_drop, Nat.min_eq_left (by omega)]
    exact (((hsl.setCell (.inl (by simp)) _).setCell (.inl (by simp)) _).drew).more (by omega) (by simp)
  · exact ((bb.setCell (Nat.le_refl _) _).setCell (Nat.le_refl _) _).drew

theorem part_out {lo up : Nat} {f m t : Int} {A : Option Addr} {n c : Nat} {l : List UInt8} {w : World} (hr : Sl w lo up 1 A n c (byteCells l)) (hup : up ≤ w.heap.size) (j : Nat)
    (hm : m < (kOf f l).1 ∨ (kOf f l).1 + (kOf f l).2.length < m) (ht : -9223372036854775808 ≤ t ∧ t ≤ 9223372036854775807)
    (hmin : (if t < ((kOf f l).2.length : Int) then t else ((kOf f l).2.length : Int)) = j) (hj0 : 0 < j) :
    Calls Try.prog 11 #[.agg #[.int .i64 f, .slice A n c], .int .i64 m, .int .i64 t] w (RetP w (kOf f l).1 ((kOf f l).2.take j) true) := by
  have hl : n = l.length := by have := hr.len; rw [byteCells_length] at this; omega
  subst hl
  have hle := kOf_le f l
  have hof := fun W lo up h1 h2 => of_any (lo := lo) (up := up) (f := f) (A := A) (n := l.length) (c := c) (l := l) (w := W) h1 h2
  generalize (kOf f l).1 = f1 at *
  generalize (kOf f l).2 = l1 at *
  obtain ⟨hle1, hle2, hle3⟩ := hle
  have Hof := Lib.hid hof
  clear hof
  go_enter Try.func11, Try.ntmps11
  go_wp2_with fail
  have a0 : Blk (w.alloc (.cells #[.int .i64 f, .slice A l.length c] 24)) w.heap.size 24 #[.int .i64 f, .slice A l.length c] := Blk.new _ _ _ rfl
  have ar := hr.alloc hup (.cells #[.int .i64 f, .slice A l.length c] 24)
  have ab := (Below.refl w.heap.size w).alloc (Nat.le_refl _) (.cells #[.int .i64 f, .slice A l.length c] 24)
  refine (Hof.out _ _ _ ar (by simp; omega)).mono ?_
  rintro e w1 ⟨A1, c1, rfl, hown, hb⟩
  have b0 := a0.later hb
  have bb := ab.trans (hb.mono (by simp))
  have hz : w.heap.size + 1 ≤ w1.heap.size := by have := hb.size; simp at this; omega
  have ⟨hc0, he0⟩ := b0.rules
  have hown := own_more (base' := w.heap.size + 1) hown (by simp)
  obtain ⟨i0, hi0, hz0, hz1, hz2⟩ := info_parts info5
  have hcap := (Sl.of_own hown).le
  have d0 := (b0.set_ 0 (.int .i64 f1)).set_ 1 (.slice A1 l1.length c1)
  have hjl : j ≤ l1.length := by split at hmin <;> omega
  obtain ⟨A3, hcut, hsl⟩ := cut_lhm Try.underlying22 hi0 hz1 (Sl.of_own hown) 0 j j 0 (j : Int) (j : Int) rfl (by omega) rfl (by omega) (by omega) (by omega)
  rw [Nat.zero_mul, List.drop_zero, Nat.mul_one, byteCells_take, Nat.sub_zero] at hsl
  rw [Nat.sub_zero] at hcut
  have h3 : ¬ (j : Int) ≤ 0 := by omega
  clear a0 ar ab hb
  rcases hm with hm | hm
  all_goals
    go_wp2
    have hw : IntKind.i64.wrap (j : Int) = (j : Int) := IntWalk.i64_in _ (by omega)
    go_region_held3 (fun w' => w'.cell? ⟨w.heap.size, 0, none⟩ = some (.int .i64 f1) ∧ w'.cell? ⟨w.heap.size, 1, none⟩ = some (.slice A1 l1.length c1)) (first | exact ⟨d0.rules.1 0, d0.rules.1 1⟩ | go_keep) (fail)
    clear hw
    go_wp2
    go_ret3
    refine ⟨A3, j, (by rw [List.length_take, Nat.min_eq_left (by omega)]; rfl), ?_, ?_⟩
    · rw [List.length_take, Nat.min_eq_left (by omega)]
      exact (((hsl.setCell (.inl (by simp)) _).setCell (.inl (by simp)) _).drew).more (by omega) (by simp)
    · exact ((bb.setCell (Nat.le_refl _) _).setCell (Nat.le_refl _) _).drew

theorem part_none {lo up : Nat} {f m t : Int} {A : Option Addr} {n c : Nat} {l : List UInt8} {w : World} (hr : Sl w lo up 1 A n c (byteCells l)) (hup : up ≤ w.heap.size)
    (hm : (m < (kOf f l).1 ∨ (kOf f l).1 + (kOf f l).2.length < m) ∧ (t ≤ 0 ∨ (kOf f l).2.length = 0) ∨ (kOf f l).1 ≤ m ∧ m ≤ (kOf f l).1 + (kOf f l).2.length ∧ (t ≤ 0 ∨ (kOf f l).1 + (kOf f l).2.length = m)) (ht : -9223372036854775808 ≤ t ∧ t ≤ 9223372036854775807) :
    Calls Try.prog 11 #[.agg #[.int .i64 f, .slice A n c], .int .i64 m, .int .i64 t] w (RetP w 0 [] false) := by
  have hl : n = l.length := by have := hr.len; rw [byteCells_length] at this; omega
  subst hl
  have hle := kOf_le f l
  have hof := fun W lo up h1 h2 => of_any (lo := lo) (up := up) (f := f) (A := A) (n := l.length) (c := c) (l := l) (w := W) h1 h2
  generalize (kOf f l).1 = f1 at *
  generalize (kOf f l).2 = l1 at *
  obtain ⟨hle1, hle2, hle3⟩ := hle
  have Hof := Lib.hid hof
  clear hof
  go_enter Try.func11, Try.ntmps11
  go_wp2_with fail
  have a0 : Blk (w.alloc (.cells #[.int .i64 f, .slice A l.length c] 24)) w.heap.size 24 #[.int .i64 f, .slice A l.length c] := Blk.new _ _ _ rfl
  have ar := hr.alloc hup (.cells #[.int .i64 f, .slice A l.length c] 24)
  have ab := (Below.refl w.heap.size w).alloc (Nat.le_refl _) (.cells #[.int .i64 f, .slice A l.length c] 24)
  refine (Hof.out _ _ _ ar (by simp; omega)).mono ?_
  rintro e w1 ⟨A1, c1, rfl, hown, hb⟩
  have b0 := a0.later hb
  have bb := ab.trans (hb.mono (by simp))
  have hz : w.heap.size + 1 ≤ w1.heap.size := by have := hb.size; simp at this; omega
  have ⟨hc0, he0⟩ := b0.rules
  have hown := own_more (base' := w.heap.size + 1) hown (by simp)
  have hcap := (Sl.of_own hown).le
  have d0 := (b0.set_ 0 (.int .i64 f1)).set_ 1 (.slice A1 l1.length c1)
  clear a0 ar ab hb d0
  rcases hm with ⟨hm | hm, ht' | ht'⟩ | ⟨hm1, hm2, ht' | ht'⟩
  all_goals
    go_wp2
    all_goals
      go_ret3
      exact ⟨none, 0, rfl, Sl.empty _ _ _ _, (bb.setCell (Nat.le_refl _) _).setCell (Nat.le_refl _) _⟩
end Go.Proofs.Ytdiphckbnendlaa
