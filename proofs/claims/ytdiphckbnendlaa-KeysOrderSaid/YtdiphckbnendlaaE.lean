/- The walk of the document's Acked. -/
import Derived.Test.YtdiphckbnendlaaD
namespace Go.Proofs.Ytdiphckbnendlaa
open Go.RowKit
attribute [local go_sem ↓] Go.wp_at_zero Go.wp_at_succ

theorem racked_out {lo up : Nat} {f m : Int} {A : Option Addr} {n c : Nat} {l : List UInt8} {w : World} (hr : Sl w lo up 1 A n c (byteCells l)) (hup : up ≤ w.heap.size)
    (hm : m < (kOf f l).1 ∨ (kOf f l).1 + (kOf f l).2.length < m) :
    Calls Try.prog 15 #[.agg #[.int .i64 f, .slice A n c], .int .i64 m] w (RetTs w (kOf f l).1 (kOf f l).2) := by
  have hl : n = l.length := by have := hr.len; rw [byteCells_length] at this; omega
  subst hl
  have hle := kOf_le f l
  have hof := fun W lo up h1 h2 => rof_any (lo := lo) (up := up) (f := f) (A := A) (n := l.length) (c := c) (l := l) (w := W) h1 h2
  generalize (kOf f l).1 = f1 at *
  generalize (kOf f l).2 = l1 at *
  obtain ⟨hle1, hle2, hle3⟩ := hle
  have Hof := Lib.hid hof
  clear hof
  go_enter Try.func15, Try.ntmps15
  go_wp2_with fail
  have a1 : Blk ((w.alloc (.cells #[.int .i64 f, .slice A l.length c] 24)).alloc (.cells #[.int .i64 0, .slice none 0 0] 24)) (w.heap.size + 1) 24 #[.int .i64 0, .slice none 0 0] := Blk.new _ _ _ (by simp)
  have ar := (hr.alloc hup (.cells #[.int .i64 f, .slice A l.length c] 24)).alloc (by simp; omega) (.cells #[.int .i64 0, .slice none 0 0] 24)
  have ab := ((Below.refl w.heap.size w).alloc (Nat.le_refl _) (.cells #[.int .i64 f, .slice A l.length c] 24)).alloc (by simp) (.cells #[.int .i64 0, .slice none 0 0] 24)
  refine (Hof.out _ _ _ ar (by simp; omega)).mono ?_
  rintro e w1 ⟨A1, c1, rfl, hown, hb⟩
  have hz : w.heap.size + 2 ≤ w1.heap.size := by have := hb.size; simp at this; omega
  have b1 := (a1.later hb).alloc (.cells #[.int .i64 f1, .slice A1 l1.length c1] 24)
  have bb := (ab.trans (hb.mono (by simp; omega))).alloc (by omega) (.cells #[.int .i64 f1, .slice A1 l1.length c1] 24)
  have ⟨hc1, he1⟩ := b1.rules
  have hown := own_alloc (own_more (base' := w.heap.size + 2) hown (by simp)) (.cells #[.int .i64 f1, .slice A1 l1.length c1] 24)
  clear a1 ar ab hb
  go_wp2
  all_goals
    refine bodyPost_ret (v := .agg #[.int .i64 f1, .slice A1 l1.length c1]) (by simp [results, Try.results15, go_sem, hc1]) rfl ⟨A1, c1, rfl, ?_, ?_⟩
    · exact Sl.of_own' (ownsRow_setCell_below (ownsRow_setCell_below hown (by simp) _) (by simp) _) (by omega)
    · exact (bb.setCell (by simp) _).setCell (by simp) _

theorem racked_in {lo up : Nat} {f : Int} {k : Nat} {A : Option Addr} {n c : Nat} {l : List UInt8} {w : World} (hr : Sl w lo up 1 A n c (byteCells l)) (hup : up ≤ w.heap.size)
    (hk : k ≤ (kOf f l).2.length) :
    Calls Try.prog 15 #[.agg #[.int .i64 f, .slice A n c], .int .i64 ((kOf f l).1 + k)] w (RetTs w ((kOf f l).1 + k) ((kOf f l).2.drop k)) := by
  have hl : n = l.length := by have := hr.len; rw [byteCells_length] at this; omega
  subst hl
  have hle := kOf_le f l
  have hof := fun W lo up h1 h2 => rof_any (lo := lo) (up := up) (f := f) (A := A) (n := l.length) (c := c) (l := l) (w := W) h1 h2
  generalize (kOf f l).1 = f1 at *
  generalize (kOf f l).2 = l1 at *
  obtain ⟨hle1, hle2, hle3⟩ := hle
  have Hof := Lib.hid hof
  clear hof
  go_enter Try.func15, Try.ntmps15
  go_wp2_with fail
  have a1 : Blk ((w.alloc (.cells #[.int .i64 f, .slice A l.length c] 24)).alloc (.cells #[.int .i64 0, .slice none 0 0] 24)) (w.heap.size + 1) 24 #[.int .i64 0, .slice none 0 0] := Blk.new _ _ _ (by simp)
  have ar := (hr.alloc hup (.cells #[.int .i64 f, .slice A l.length c] 24)).alloc (by simp; omega) (.cells #[.int .i64 0, .slice none 0 0] 24)
  have ab := ((Below.refl w.heap.size w).alloc (Nat.le_refl _) (.cells #[.int .i64 f, .slice A l.length c] 24)).alloc (by simp) (.cells #[.int .i64 0, .slice none 0 0] 24)
  refine (Hof.out _ _ _ ar (by simp; omega)).mono ?_
  rintro e w1 ⟨A1, c1, rfl, hown, hb⟩
  have hz : w.heap.size + 2 ≤ w1.heap.size := by have := hb.size; simp at this; omega
  have b1 := (a1.later hb).alloc (.cells #[.int .i64 f1, .slice A1 l1.length c1] 24)
  have bb := (ab.trans (hb.mono (by simp; omega))).alloc (by omega) (.cells #[.int .i64 f1, .slice A1 l1.length c1] 24)
  have ⟨hc1, he1⟩ := b1.rules
  have hown := own_alloc (own_more (base' := w.heap.size + 2) hown (by simp)) (.cells #[.int .i64 f1, .slice A1 l1.length c1] 24)
  obtain ⟨i0, hi0, hz0, hz1, hz2⟩ := info_parts info5
  have hsub : f1 + (k : Int) - f1 = k := by omega
  have h1 : ¬ f1 + (k : Int) < f1 := by omega
  have h2 : ¬ f1 + (l1.length : Int) < f1 + k := by omega
  obtain ⟨A3, hcut, hsl⟩ := cut_l Try.underlying22 hi0 hz1 (Sl.of_own hown) k (l1.length - k) (k : Int) rfl (by omega)
  rw [Nat.mul_one, byteCells_drop] at hsl
  clear a1 ar ab hb
  go_wp2
  refine bodyPost_ret (v := .agg #[.int .i64 (f1 + k), .slice A3 (l1.length - k) (c1 - k)]) (by simp [results, Try.results15, go_sem, hc1]) rfl ⟨A3, c1 - k, by rw [List.length_drop], ?_, ?_⟩
  · rw [List.length_drop]
    exact ((hsl.setCell (.inl (by simp)) _).setCell (.inl (by simp)) _).more (by omega) (by simp)
  · exact (bb.setCell (by simp) _).setCell (by simp) _

theorem racked_any {lo up : Nat} {f m : Int} {A : Option Addr} {n c : Nat} {l : List UInt8} {w : World} (hr : Sl w lo up 1 A n c (byteCells l)) (hup : up ≤ w.heap.size) :
    Calls Try.prog 15 #[.agg #[.int .i64 f, .slice A n c], .int .i64 m] w (RetTs w (kAcked f l m).1 (kAcked f l m).2) := by
  unfold kAcked
  by_cases h : m < (kOf f l).1 ∨ (kOf f l).1 + (kOf f l).2.length < m
  · rw [if_pos h]; exact racked_out hr hup h
  · rw [if_neg h]
    obtain ⟨k, hk⟩ : ∃ k : Nat, m = (kOf f l).1 + k := ⟨(m - (kOf f l).1).toNat, by omega⟩
    subst hk
    rw [show ((kOf f l).1 + (k : Int) - (kOf f l).1).toNat = k from by omega]
    exact racked_in hr hup (by omega)
end Go.Proofs.Ytdiphckbnendlaa
