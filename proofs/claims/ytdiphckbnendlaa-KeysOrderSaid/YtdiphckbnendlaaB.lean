/- The walks of keys.Type and of the document's Type. -/
import Derived.Test.YtdiphckbnendlaaA
namespace Go.Proofs.Ytdiphckbnendlaa
open Go.RowKit
attribute [local go_sem ↓] Go.wp_at_zero Go.wp_at_succ

/-- What a Typed of the callee's own, and an error, are handed back as. -/
def RetTE (w : World) (f : Int) (l : List UInt8) (n : Int) (e : Ending) (w' : World) : Prop :=
  ∃ A c, e = .returned (.tuple #[.agg #[.int .i64 f, .slice A l.length c], .int .i64 n]) ∧ w'.ownsRow w.heap.size 5 1 (.slice A l.length c) l.length (byteCells l) ∧ Below w.heap.size w w'

theorem type_ok {lo up lo2 up2 : Nat} {f : Int} {A : Option Addr} {n c : Nat} {l : List UInt8} {A2 : Option Addr} {n2 c2 : Nat} {b : List UInt8} {w : World} (hr : Sl w lo up 1 A n c (byteCells l)) (hup : up ≤ w.heap.size)
    (hr2 : Sl w lo2 up2 1 A2 n2 c2 (byteCells b)) (hup2 : up2 ≤ w.heap.size) (hfit : (kOf f l).2.length + b.length ≤ 64 ∧ (kOf f l).1 ≤ 4611686018427387839 - ((kOf f l).2.length + b.length)) :
    Calls Try.prog 9 #[.agg #[.int .i64 f, .slice A n c], .slice A2 n2 c2] w (RetTE w (kOf f l).1 ((kOf f l).2 ++ b) 0) := by
  have hl : n = l.length := by have := hr.len; rw [byteCells_length] at this; omega
  have hl2 : n2 = b.length := by have := hr2.len; rw [byteCells_length] at this; omega
  subst hl hl2
  have hle := kOf_le f l
  have hof := fun W lo up h1 h2 => of_any (lo := lo) (up := up) (f := f) (A := A) (n := l.length) (c := c) (l := l) (w := W) h1 h2
  generalize (kOf f l).1 = f1 at *
  generalize (kOf f l).2 = l1 at *
  obtain ⟨hle1, hle2, hle3⟩ := hle
  obtain ⟨hf1, hf2⟩ := hfit
  obtain ⟨i0, hi0, hz0, hz1, hz2⟩ := info_parts info5
  have Hof := Lib.hid hof
  clear hof
  go_enter Try.func9, Try.ntmps9
  go_wp2_with fail
  have a0 : Blk ((w.alloc (.cells #[.int .i64 f, .slice A l.length c] 24)).alloc (.cells #[.int .i64 0, .slice none 0 0] 24)) w.heap.size 24 #[.int .i64 f, .slice A l.length c] := (Blk.new _ _ _ rfl).alloc _
  have a1 : Blk ((w.alloc (.cells #[.int .i64 f, .slice A l.length c] 24)).alloc (.cells #[.int .i64 0, .slice none 0 0] 24)) (w.heap.size + 1) 24 #[.int .i64 0, .slice none 0 0] := Blk.new _ _ _ (by simp)
  have ar := (hr.alloc hup (.cells #[.int .i64 f, .slice A l.length c] 24)).alloc (by simp; omega) (.cells #[.int .i64 0, .slice none 0 0] 24)
  have ab := ((Below.refl w.heap.size w).alloc (Nat.le_refl _) (.cells #[.int .i64 f, .slice A l.length c] 24)).alloc (by simp) (.cells #[.int .i64 0, .slice none 0 0] 24)
  refine (Hof.out _ _ _ ar (by simp; omega)).mono ?_
  rintro e w1 ⟨A1, c1, rfl, hown, hb⟩
  have b0 := a0.later hb
  have b1 := a1.later hb
  have bb := ab.trans (hb.mono (by simp; omega))
  have hz : w.heap.size + 2 ≤ w1.heap.size := by have := hb.size; simp at this; omega
  have ⟨hc0, he0⟩ := b0.rules
  have ⟨hc1, he1⟩ := b1.rules
  have hown := own_more (base' := w.heap.size + 2) hown (by simp)
  clear a0 a1 ar ab hb
  go_wp2_with (at_builtin; refine wpList_append_sl _ rfl (.tmp 26) (.tmp 27) _ rfl (w.heap.size + 2) 5 i0 _ 1 1 Try.underlying22 hi0 hz0 hz1 hz2 rfl (by omega) (.slice A1 l1.length c1) l1.length _ rfl (ownsRow_setCell_below (ownsRow_setCell_below hown (by simp) _) (by simp) _) lo2 up2 A2 b.length c2 _ rfl (((hr2.below bb hup2).setCell (.inr hup2) _).setCell (.inr hup2) _) (byteCells_one b) (l1.length + b.length) rfl _ (byteCells_append l1 b).symm (by unfold maxLen; omega) (by omega) (by simp; omega) ?_; intro A' c' w' hown' hg; have hb2 := grown_below (B := w.heap.size + 2) hg (by simp; omega) (fun k hk => (hown.lt k hk).1); have d0 := ((b0.set_ 0 (.int .i64 f1)).set_ 1 (.slice A1 l1.length c1)).below hb2 (by omega); have d1 := ((b1.far (p := ⟨w.heap.size, 0, none⟩) (by simp) (.int .i64 f1)).far (p := ⟨w.heap.size, 1, none⟩) (by simp) (.slice A1 l1.length c1)).below hb2 (by omega); have ⟨kc0, ke0⟩ := d0.rules; have ⟨kc1, ke1⟩ := d1.rules; have bb2 := ((bb.setCell (p := ⟨w.heap.size, 0, none⟩) (Nat.le_refl _) (.int .i64 f1)).setCell (p := ⟨w.heap.size, 1, none⟩) (Nat.le_refl _) (.slice A1 l1.length c1)).trans (hb2.mono (by omega)); have hs2 := hb2.size; clear hb2 hg)
  refine bodyPost_ret (v := .tuple #[.agg #[.int .i64 f1, .slice A' (l1.length + b.length) c'], .int .i64 0]) (by simp [results, Try.results9, go_sem, kc1]) rfl ⟨A', c', by simp, ?_, ?_⟩
  · rw [List.length_append]
    exact own_more (ownsRow_setCell_below (ownsRow_setCell_below (ownsRow_setCell_below hown' (by simp) _) (by simp) _) (by simp) _) (by omega)
  · exact ((bb2.setCell (Nat.le_refl _) _).setCell (by simp) _).setCell (by simp) _

theorem type_full {lo up : Nat} {f : Int} {A : Option Addr} {n c : Nat} {l : List UInt8} {A2 : Option Addr} {n2 c2 : Nat} {w : World} (hr : Sl w lo up 1 A n c (byteCells l)) (hup : up ≤ w.heap.size)
    (hn2 : n2 ≤ 140737488355328) (hfit : 64 < (kOf f l).2.length + n2 ∨ 4611686018427387839 - ((kOf f l).2.length + n2) < (kOf f l).1) :
    Calls Try.prog 9 #[.agg #[.int .i64 f, .slice A n c], .slice A2 n2 c2] w (RetTE w (kOf f l).1 (kOf f l).2 210) := by
  have hl : n = l.length := by have := hr.len; rw [byteCells_length] at this; omega
  subst hl
  have hle := kOf_le f l
  have hof := fun W lo up h1 h2 => of_any (lo := lo) (up := up) (f := f) (A := A) (n := l.length) (c := c) (l := l) (w := W) h1 h2
  generalize (kOf f l).1 = f1 at *
  generalize (kOf f l).2 = l1 at *
  obtain ⟨hle1, hle2, hle3⟩ := hle
  have Hof := Lib.hid hof
  clear hof
  go_enter Try.func9, Try.ntmps9
  go_wp2_with fail
  have a0 : Blk ((w.alloc (.cells #[.int .i64 f, .slice A l.length c] 24)).alloc (.cells #[.int .i64 0, .slice none 0 0] 24)) w.heap.size 24 #[.int .i64 f, .slice A l.length c] := (Blk.new _ _ _ rfl).alloc _
  have a1 : Blk ((w.alloc (.cells #[.int .i64 f, .slice A l.length c] 24)).alloc (.cells #[.int .i64 0, .slice none 0 0] 24)) (w.heap.size + 1) 24 #[.int .i64 0, .slice none 0 0] := Blk.new _ _ _ (by simp)
  have ar := (hr.alloc hup (.cells #[.int .i64 f, .slice A l.length c] 24)).alloc (by simp; omega) (.cells #[.int .i64 0, .slice none 0 0] 24)
  have ab := ((Below.refl w.heap.size w).alloc (Nat.le_refl _) (.cells #[.int .i64 f, .slice A l.length c] 24)).alloc (by simp) (.cells #[.int .i64 0, .slice none 0 0] 24)
  refine (Hof.out _ _ _ ar (by simp; omega)).mono ?_
  rintro e w1 ⟨A1, c1, rfl, hown, hb⟩
  have b0 := a0.later hb
  have b1 := a1.later hb
  have bb := ab.trans (hb.mono (by simp; omega))
  have hz : w.heap.size + 2 ≤ w1.heap.size := by have := hb.size; simp at this; omega
  have ⟨hc0, he0⟩ := b0.rules
  have ⟨hc1, he1⟩ := b1.rules
  have hown := own_more (base' := w.heap.size + 2) hown (by simp)
  clear a0 a1 ar ab hb
  go_wp2
  all_goals
    refine bodyPost_ret (v := .tuple #[.agg #[.int .i64 f1, .slice A1 l1.length c1], .int .i64 210]) (by simp [results, Try.results9, go_sem, hc1]) rfl ⟨A1, c1, rfl, ?_, ?_⟩
    · exact own_more (ownsRow_setCell_below (ownsRow_setCell_below (ownsRow_setCell_below (ownsRow_setCell_below hown (by simp) _) (by simp) _) (by simp) _) (by simp) _) (by omega)
    · exact (((bb.setCell (Nat.le_refl _) _).setCell (Nat.le_refl _) _).setCell (by simp) _).setCell (by simp) _
end Go.Proofs.Ytdiphckbnendlaa
