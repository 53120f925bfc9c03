/- The walks of keys.Acked and of the document's Acked. -/
import Derived.Test.YtdiphckbnendlaaA
namespace Go.Proofs.Ytdiphckbnendlaa
open Go.RowKit
attribute [local go_sem ↓] Go.wp_at_zero Go.wp_at_succ

/-- What a Typed in memory of the callee's own, perhaps cut, is handed back as. -/
def RetTs (w : World) (f : Int) (l : List UInt8) (e : Ending) (w' : World) : Prop :=
  ∃ A c, e = .returned (.agg #[.int .i64 f, .slice A l.length c]) ∧ Sl w' w.heap.size w'.heap.size 1 A l.length c (byteCells l) ∧ Below w.heap.size w w'

theorem Sl.of_own' {w : World} {base base' : Nat} {e : TypeId} {s : Nat} {A : Option Addr} {n c : Nat} {xs : List Value} (h : w.ownsRow base e s (.slice A n c) n xs) (hb : base' ≤ base) : Sl w base' w.heap.size s A n c xs :=
  (Sl.of_own h).more hb (Nat.le_refl _)

theorem acked_out {lo up : Nat} {f m : Int} {A : Option Addr} {n c : Nat} {l : List UInt8} {w : World} (hr : Sl w lo up 1 A n c (byteCells l)) (hup : up ≤ w.heap.size)
    (hm : m < (kOf f l).1 ∨ (kOf f l).1 + (kOf f l).2.length < m) :
    Calls Try.prog 14 #[.agg #[.int .i64 f, .slice A n c], .int .i64 m] w (RetTs w (kOf f l).1 (kOf f l).2) := by
  have hl : n = l.length := by have := hr.len; rw [byteCells_length] at this; omega
  subst hl
  have hle := kOf_le f l
  have hof := fun W lo up h1 h2 => of_any (lo := lo) (up := up) (f := f) (A := A) (n := l.length) (c := c) (l := l) (w := W) h1 h2
  generalize (kOf f l).1 = f1 at *
  generalize (kOf f l).2 = l1 at *
  obtain ⟨hle1, hle2, hle3⟩ := hle
  have Hof := Lib.hid hof
  clear hof
  go_enter Try.func14, Try.ntmps14
  go_wp2_with fail
  have a0 : Blk ((w.alloc (.cells #[.int .i64 f, .slice A l.length c] 24)).alloc (.cells #[.int .i64 0, .slice none 0 0] 24)) w.heap.size 24 #[.int .i64 f, .slice A l.length c] := (Blk.new _ _ _ rfl).alloc _
  have a1 : Blk ((w.alloc (.cells #[.int .i64 f, .slice A l.length c] 24)).alloc (.cells #[.int .i64 0, .slice none 0 0] 24)) (w.heap.size + 1) 24 #[.int .i64 0, .slice none 0 0] := Blk.new _ _ _ (by simp)
  have ar := (hr.alloc hup (.cells #[.int .i64 f, .slice A l.length c] 24)).alloc (by simp; omega) (.cells #[.int .i64 0, .slice none 0 0] 24)
  have ab := ((Below.refl w.heap.size w).alloc (Nat.le_refl _) (.cells #[.int .i64 f, .slice A l.length c] 24)).alloc (by simp) (.cells #[.int .i64 0, .slice none 0 0] 24)
  refine (Hof.out _ _ _ ar (by simp; omega)).mono ?_
  rintro e w1 ⟨A1, c1, rfl, hown, hb⟩
  have b0 := a0.later hb
  have b1 := a1.later hb
  have bb := ab.trans (hb.mono (by simp; omega))
  have hz : w.heap.size + 2 ≤ w1.heap.size := by have := hb.size; simp at this; omega
  have ⟨hc0, he0⟩ := b0.rules
  have ⟨hc1, he1⟩ := b1.rules
  have hown := own_more (base' := w.heap.size + 2) hown (by simp)
  clear a0 a1 ar ab hb
  go_wp2
  all_goals
    refine bodyPost_ret (v := .agg #[.int .i64 f1, .slice A1 l1.length c1]) (by simp [results, Try.results14, go_sem, hc1]) rfl ⟨A1, c1, rfl, ?_, ?_⟩
    · exact Sl.of_own' (ownsRow_setCell_below (ownsRow_setCell_below (ownsRow_setCell_below (ownsRow_setCell_below hown (by simp) _) (by simp) _) (by simp) _) (by simp) _) (by omega)
    · exact (((bb.setCell (Nat.le_refl _) _).setCell (Nat.le_refl _) _).setCell (by simp) _).setCell (by simp) _

theorem acked_in {lo up : Nat} {f : Int} {k : Nat} {A : Option Addr} {n c : Nat} {l : List UInt8} {w : World} (hr : Sl w lo up 1 A n c (byteCells l)) (hup : up ≤ w.heap.size)
    (hk : k ≤ (kOf f l).2.length) :
    Calls Try.prog 14 #[.agg #[.int .i64 f, .slice A n c], .int .i64 ((kOf f l).1 + k)] w (RetTs w ((kOf f l).1 + k) ((kOf f l).2.drop k)) := by
  have hl : n = l.length := by have := hr.len; rw [byteCells_length] at this; omega
  subst hl
  have hle := kOf_le f l
  have hof := fun W lo up h1 h2 => of_any (lo := lo) (up := up) (f := f) (A := A) (n := l.length) (c := c) (l := l) (w := W) h1 h2
  generalize (kOf f l).1 = f1 at *
  generalize (kOf f l).2 = l1 at *
  obtain ⟨hle1, hle2, hle3⟩ := hle
  have Hof := Lib.hid hof
  clear hof
  go_enter Try.func14, Try.ntmps14
  go_wp2_with fail
  have a0 : Blk ((w.alloc (.cells #[.int .i64 f, .slice A l.length c] 24)).alloc (.cells #[.int .i64 0, .slice none 0 0] 24)) w.heap.size 24 #[.int .i64 f, .slice A l.length c] := (Blk.new _ _ _ rfl).alloc _
  have a1 : Blk ((w.alloc (.cells #[.int .i64 f, .slice A l.length c] 24)).alloc (.cells #[.int .i64 0, .slice none 0 0] 24)) (w.heap.size + 1) 24 #[.int .i64 0, .slice none 0 0] := Blk.new _ _ _ (by simp)
  have ar := (hr.alloc hup (.cells #[.int .i64 f, .slice A l.length c] 24)).alloc (by simp; omega) (.cells #[.int .i64 0, .slice none 0 0] 24)
  have ab := ((Below.refl w.heap.size w).alloc (Nat.le_refl _) (.cells #[.int .i64 f, .slice A l.length c] 24)).alloc (by simp) (.cells #[.int .i64 0, .slice none 0 0] 24)
  refine (Hof.out _ _ _ ar (by simp; omega)).mono ?_
  rintro e w1 ⟨A1, c1, rfl, hown, hb⟩
  have b0 := a0.later hb
  have b1 := a1.later hb
  have bb := ab.trans (hb.mono (by simp; omega))
  have hz : w.heap.size + 2 ≤ w1.heap.size := by have := hb.size; simp at this; omega
  have ⟨hc0, he0⟩ := b0.rules
  have ⟨hc1, he1⟩ := b1.rules
  have hown := own_more (base' := w.heap.size + 2) hown (by simp)
  obtain ⟨i0, hi0, hz0, hz1, hz2⟩ := info_parts info5
  have hsub : f1 + (k : Int) - f1 = k := by omega
  have h1 : ¬ f1 + (k : Int) < f1 := by omega
  have h2 : ¬ f1 + (l1.length : Int) < f1 + k := by omega
  obtain ⟨A3, hcut, hsl⟩ := cut_lhm Try.underlying22 hi0 hz1 (Sl.of_own hown) k (l1.length - k) l1.length (k : Int) (l1.length : Int) (l1.length : Int) rfl (by omega) rfl (by omega) (by omega) (Sl.of_own hown).le
  have hdrop : ((byteCells l1).drop (k * 1)).take ((l1.length - k) * 1) = byteCells (l1.drop k) := by
    rw [Nat.mul_one, Nat.mul_one, byteCells_drop, List.take_of_length_le (by rw [byteCells_length, List.length_drop]; omega)]
  rw [hdrop] at hsl
  clear a0 a1 ar ab hb hdrop
  go_wp2
  refine bodyPost_ret (v := .agg #[.int .i64 (f1 + k), .slice A3 (l1.length - k) (l1.length - k)]) (by simp [results, Try.results14, go_sem, hc1]) rfl ⟨A3, l1.length - k, by rw [List.length_drop], ?_, ?_⟩
  · rw [List.length_drop]
    exact ((((hsl.setCell (.inl (by simp)) _).setCell (.inl (by simp)) _).setCell (.inl (by simp)) _).setCell (.inl (by simp)) _).more (by omega) (by simp)
  · exact (((bb.setCell (Nat.le_refl _) _).setCell (Nat.le_refl _) _).setCell (by simp) _).setCell (by simp) _

/-- Acked. -/
def kAcked (f : Int) (l : List UInt8) (m : Int) : Int × List UInt8 :=
  if m < (kOf f l).1 ∨ (kOf f l).1 + (kOf f l).2.length < m then kOf f l else (m, (kOf f l).2.drop (m - (kOf f l).1).toNat)

theorem acked_any {lo up : Nat} {f m : Int} {A : Option Addr} {n c : Nat} {l : List UInt8} {w : World} (hr : Sl w lo up 1 A n c (byteCells l)) (hup : up ≤ w.heap.size) :
    Calls Try.prog 14 #[.agg #[.int .i64 f, .slice A n c], .int .i64 m] w (RetTs w (kAcked f l m).1 (kAcked f l m).2) := by
  unfold kAcked
  by_cases h : m < (kOf f l).1 ∨ (kOf f l).1 + (kOf f l).2.length < m
  · rw [if_pos h]; exact acked_out hr hup h
  · rw [if_neg h]
    obtain ⟨k, hk⟩ : ∃ k : Nat, m = (kOf f l).1 + k := ⟨(m - (kOf f l).1).toNat, by omega⟩
    subst hk
    rw [show ((kOf f l).1 + (k : Int) - (kOf f l).1).toNat = k from by omega]
    exact acked_in hr hup (by omega)
end Go.Proofs.Ytdiphckbnendlaa
