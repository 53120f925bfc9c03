/- The walk of the document's Part. -/
import Derived.Test.YtdiphckbnendlaaF
namespace Go.Proofs.Ytdiphckbnendlaa
set_option linter.unusedVariables false
open Go.RowKit
attribute [local go_sem ↓] Go.wp_at_zero Go.wp_at_succ

theorem rpart_in {lo up : Nat} {f t : Int} {A : Option Addr} {n c : Nat} {l : List UInt8} {w : World} (hr : Sl w lo up 1 A n c (byteCells l)) (hup : up ≤ w.heap.size) (k m j : Nat)
    (hk : k + m = (kOf f l).2.length) (hmin : (if t < (m : Int) then t else (m : Int)) = j) (hj0 : 0 < j) :
    Calls Try.prog 12 #[.agg #[.int .i64 f, .slice A n c], .int .i64 ((kOf f l).1 + k), .int .i64 t] w (RetP w ((kOf f l).1 + k) (((kOf f l).2.drop k).take j) true) := by
  have hl : n = l.length := by have := hr.len; rw [byteCells_length] at this; omega
  subst hl
  have hle := kOf_le f l
  have hof := fun W lo up h1 h2 => rof_any (lo := lo) (up := up) (f := f) (A := A) (n := l.length) (c := c) (l := l) (w := W) h1 h2
  generalize (kOf f l).1 = f1 at *
  generalize (kOf f l).2 = l1 at *
  obtain ⟨hle1, hle2, hle3⟩ := hle
  have Hof := Lib.hid hof
  clear hof
  go_enter Try.func12, Try.ntmps12
  go_wp2_with fail
  have ar := hr.alloc hup (.cells #[.int .i64 f, .slice A l.length c] 24)
  have ab := (Below.refl w.heap.size w).alloc (Nat.le_refl _) (.cells #[.int .i64 f, .slice A l.length c] 24)
  refine (Hof.out _ _ _ ar (by simp; omega)).mono ?_
  rintro e w1 ⟨A1, c1, rfl, hown, hb⟩
  have hz : w.heap.size + 1 ≤ w1.heap.size := by have := hb.size; simp at this; omega
  have bb := (ab.trans (hb.mono (by simp))).alloc (by omega) (.cells #[.int .i64 f1, .slice A1 l1.length c1] 24)
  have hown := own_alloc (own_more (base' := w.heap.size + 1) hown (by simp)) (.cells #[.int .i64 f1, .slice A1 l1.length c1] 24)
  obtain ⟨i0, hi0, hz0, hz1, hz2⟩ := info_parts info5
  have hcap := (Sl.of_own hown).le
  have hjl : j ≤ m := by split at hmin <;> omega
  have ht0 : ¬ t ≤ 0 := by split at hmin <;> omega
  obtain ⟨A3, hcut, hsl⟩ := cut_l Try.underlying22 hi0 hz1 (Sl.of_own hown) k m (k : Int) rfl hk
  obtain ⟨A4, hcut2, hsl2⟩ := cut_h Try.underlying22 hi0 hz1 hsl j (j : Int) rfl hjl
  rw [Nat.mul_one, Nat.mul_one, byteCells_drop, byteCells_take] at hsl2
  have hsub : f1 + (k : Int) - f1 = k := by omega
  have h1 : ¬ f1 + (k : Int) < f1 := by omega
  have h2 : ¬ f1 + (l1.length : Int) < f1 + k := by omega
  have h3 : ((m : Int) == 0) = false := by simp; omega
  have hK := Lib.hid hk
  clear ar ab hb hk hsl
  go_wp2
  go_region_held3 (fun w' => True) (trivial) (fail)
  go_wp2
  go_ret3
  have hkm := hK.out
  refine ⟨A4, c1 - k, (by rw [List.length_take, List.length_drop, Nat.min_eq_left (by omega)]; rfl), ?_, ?_⟩
  · rw [List.length_take, List.length_drop, Nat.min_eq_left (by omega)]
    exact (hsl2.drew).more (by omega) (by simp)
  · exact bb.drew

theorem rpart_out {lo up : Nat} {f m t : Int} {A : Option Addr} {n c : Nat} {l : List UInt8} {w : World} (hr : Sl w lo up 1 A n c (byteCells l)) (hup : up ≤ w.heap.size) (j : Nat)
    (hm : m < (kOf f l).1 ∨ (kOf f l).1 + (kOf f l).2.length < m) (hmin : (if t < ((kOf f l).2.length : Int) then t else ((kOf f l).2.length : Int)) = j) (hj0 : 0 < j) :
    Calls Try.prog 12 #[.agg #[.int .i64 f, .slice A n c], .int .i64 m, .int .i64 t] w (RetP w (kOf f l).1 ((kOf f l).2.take j) true) := by
  have hl : n = l.length := by have := hr.len; rw [byteCells_length] at this; omega
  subst hl
  have hle := kOf_le f l
  have hof := fun W lo up h1 h2 => rof_any (lo := lo) (up := up) (f := f) (A := A) (n := l.length) (c := c) (l := l) (w := W) h1 h2
  generalize (kOf f l).1 = f1 at *
  generalize (kOf f l).2 = l1 at *
  obtain ⟨hle1, hle2, hle3⟩ := hle
  have Hof := Lib.hid hof
  clear hof
  go_enter Try.func12, Try.ntmps12
  go_wp2_with fail
  have ar := hr.alloc hup (.cells #[.int .i64 f, .slice A l.length c] 24)
  have ab := (Below.refl w.heap.size w).alloc (Nat.le_refl _) (.cells #[.int .i64 f, .slice A l.length c] 24)
  refine (Hof.out _ _ _ ar (by simp; omega)).mono ?_
  rintro e w1 ⟨A1, c1, rfl, hown, hb⟩
  have hz : w.heap.size + 1 ≤ w1.heap.size := by have := hb.size; simp at this; omega
  have bb := (ab.trans (hb.mono (by simp))).alloc (by omega) (.cells #[.int .i64 f1, .slice A1 l1.length c1] 24)
  have hown := own_alloc (own_more (base' := w.heap.size + 1) hown (by simp)) (.cells #[.int .i64 f1, .slice A1 l1.length c1] 24)
  obtain ⟨i0, hi0, hz0, hz1, hz2⟩ := info_parts info5
  have hcap := (Sl.of_own hown).le
  have hjl : j ≤ l1.length := by split at hmin <;> omega
  have ht0 : ¬ t ≤ 0 := by split at hmin <;> omega
  obtain ⟨A3, hcut, hsl⟩ := cut_l Try.underlying22 hi0 hz1 (Sl.of_own hown) 0 l1.length 0 rfl (by omega)
  simp only [Nat.sub_zero] at hcut hsl
  obtain ⟨A4, hcut2, hsl2⟩ := cut_h Try.underlying22 hi0 hz1 hsl j (j : Int) rfl hjl
  rw [Nat.zero_mul, List.drop_zero, Nat.mul_one, byteCells_take] at hsl2
  have h3 : ((l1.length : Int) == 0) = false := by simp; intro h; subst h; simp at hjl; omega
  clear ar ab hb hsl
  rcases hm with hm | hm
  all_goals
    go_wp2
    go_region_held3 (fun w' => True) (trivial) (fail)
    go_wp2
    go_ret3
    refine ⟨A4, c1, (by rw [List.length_take, Nat.min_eq_left (by omega)]; rfl), ?_, ?_⟩
    · rw [List.length_take, Nat.min_eq_left (by omega)]
      exact (hsl2.drew).more (by omega) (by simp)
    · exact bb.drew

theorem rpart_none {lo up : Nat} {f m t : Int} {A : Option Addr} {n c : Nat} {l : List UInt8} {w : World} (hr : Sl w lo up 1 A n c (byteCells l)) (hup : up ≤ w.heap.size)
    (hm : (m < (kOf f l).1 ∨ (kOf f l).1 + (kOf f l).2.length < m) ∧ (t ≤ 0 ∨ (kOf f l).2.length = 0) ∨ (kOf f l).1 ≤ m ∧ m ≤ (kOf f l).1 + (kOf f l).2.length ∧ (t ≤ 0 ∨ (kOf f l).1 + (kOf f l).2.length = m)) :
    Calls Try.prog 12 #[.agg #[.int .i64 f, .slice A n c], .int .i64 m, .int .i64 t] w (RetP w 0 [] false) := by
  have hl : n = l.length := by have := hr.len; rw [byteCells_length] at this; omega
  subst hl
  have hle := kOf_le f l
  have hof := fun W lo up h1 h2 => rof_any (lo := lo) (up := up) (f := f) (A := A) (n := l.length) (c := c) (l := l) (w := W) h1 h2
  generalize (kOf f l).1 = f1 at *
  generalize (kOf f l).2 = l1 at *
  obtain ⟨hle1, hle2, hle3⟩ := hle
  have Hof := Lib.hid hof
  clear hof
  go_enter Try.func12, Try.ntmps12
  go_wp2_with fail
  have ar := hr.alloc hup (.cells #[.int .i64 f, .slice A l.length c] 24)
  have ab := (Below.refl w.heap.size w).alloc (Nat.le_refl _) (.cells #[.int .i64 f, .slice A l.length c] 24)
  refine (Hof.out _ _ _ ar (by simp; omega)).mono ?_
  rintro e w1 ⟨A1, c1, rfl, hown, hb⟩
  have hz : w.heap.size + 1 ≤ w1.heap.size := by have := hb.size; simp at this; omega
  have bb := ab.trans (hb.mono (by simp))
  have hown := own_alloc (own_more (base' := w.heap.size + 1) hown (by simp)) (.cells #[.int .i64 f1, .slice A1 l1.length c1] 24)
  obtain ⟨i0, hi0, hz0, hz1, hz2⟩ := info_parts info5
  have hcap := (Sl.of_own hown).le
  clear ar ab hb
  rcases hm with ⟨hm | hm, ht' | ht'⟩ | ⟨hm1, hm2, ht' | ht'⟩
  all_goals
    go_wp2
    all_goals
      go_ret3
      exact ⟨none, 0, rfl, Sl.empty _ _ _ _, bb.alloc (by omega) _⟩
end Go.Proofs.Ytdiphckbnendlaa
