/- The walk of the document's Type. -/
import Derived.Test.YtdiphckbnendlaaB
namespace Go.Proofs.Ytdiphckbnendlaa
open Go.RowKit
attribute [local go_sem ↓] Go.wp_at_zero Go.wp_at_succ

theorem rtype_ok {lo up lo2 up2 : Nat} {f : Int} {A : Option Addr} {n c : Nat} {l : List UInt8} {A2 : Option Addr} {n2 c2 : Nat} {b : List UInt8} {w : World} (hr : Sl w lo up 1 A n c (byteCells l)) (hup : up ≤ w.heap.size)
    (hr2 : Sl w lo2 up2 1 A2 n2 c2 (byteCells b)) (hup2 : up2 ≤ w.heap.size) (hfit : (kOf f l).2.length + b.length ≤ 64 ∧ (kOf f l).1 ≤ 4611686018427387839 - ((kOf f l).2.length + b.length)) :
    Calls Try.prog 10 #[.agg #[.int .i64 f, .slice A n c], .slice A2 n2 c2] w (RetTE w (kOf f l).1 ((kOf f l).2 ++ b) 0) := by
  have hl : n = l.length := by have := hr.len; rw [byteCells_length] at this; omega
  have hl2 : n2 = b.length := by have := hr2.len; rw [byteCells_length] at this; omega
  subst hl hl2
  have hle := kOf_le f l
  have hof := fun W lo up h1 h2 => rof_any (lo := lo) (up := up) (f := f) (A := A) (n := l.length) (c := c) (l := l) (w := W) h1 h2
  generalize (kOf f l).1 = f1 at *
  generalize (kOf f l).2 = l1 at *
  obtain ⟨hle1, hle2, hle3⟩ := hle
  obtain ⟨hf1, hf2⟩ := hfit
  obtain ⟨i0, hi0, hz0, hz1, hz2⟩ := info_parts info5
  have Hof := Lib.hid hof
  clear hof
  go_enter Try.func10, Try.ntmps10
  go_wp2_with fail
  have a1 : Blk ((w.alloc (.cells #[.int .i64 f, .slice A l.length c] 24)).alloc (.cells #[.int .i64 0, .slice none 0 0] 24)) (w.heap.size + 1) 24 #[.int .i64 0, .slice none 0 0] := Blk.new _ _ _ (by simp)
  have ar := (hr.alloc hup (.cells #[.int .i64 f, .slice A l.length c] 24)).alloc (by simp; omega) (.cells #[.int .i64 0, .slice none 0 0] 24)
  have ab := ((Below.refl w.heap.size w).alloc (Nat.le_refl _) (.cells #[.int .i64 f, .slice A l.length c] 24)).alloc (by simp) (.cells #[.int .i64 0, .slice none 0 0] 24)
  refine (Hof.out _ _ _ ar (by simp; omega)).mono ?_
  rintro e w1 ⟨A1, c1, rfl, hown, hb⟩
  have b1 := a1.later hb
  have bb := ab.trans (hb.mono (by simp; omega))
  have hz : w.heap.size + 2 ≤ w1.heap.size := by have := hb.size; simp at this; omega
  have hown := own_more (base' := w.heap.size + 2) hown (by simp)
  clear a1 ar ab hb
  go_wp2_with (at_builtin; refine wpList_append_sl _ rfl (.tmp 27) (.tmp 28) _ rfl (w.heap.size + 2) 5 i0 _ 1 1 Try.underlying22 hi0 hz0 hz1 hz2 rfl (by omega) (.slice A1 l1.length c1) l1.length _ rfl (own_below hown ((Below.refl w1.heap.size w1).alloc (Nat.le_refl _) _) (Nat.le_refl _)) lo2 up2 A2 b.length c2 _ rfl ((hr2.below bb hup2).alloc (by omega) _) (byteCells_one b) (l1.length + b.length) rfl _ (byteCells_append l1 b).symm (by unfold maxLen; omega) (by omega) (by simp; omega) ?_; intro A' c' w' hown' hg; have d0 := (Blk.new w1 24 #[.int .i64 f1, .slice A1 l1.length c1] rfl).grown hg (fun e => by have := (hown.lt _ e.symm).2; omega); have d1 := (b1.alloc (.cells #[.int .i64 f1, .slice A1 l1.length c1] 24)).grown hg (fun e => by have := (hown.lt _ e.symm).1; omega); have ⟨kc0, ke0⟩ := d0.rules; have ⟨kc1, ke1⟩ := d1.rules; have hs2 := hg.size; have bb2 := (bb.alloc (by omega) _).grown hg (by simp; omega) (fun k hk => by have := (hown.lt _ hk).1; omega); have hlt := hown'.lt; clear hg)
  have e0 := d0.set_ 1 (.slice A' (l1.length + b.length) c')
  have e1 := d1.far (p := ⟨w1.heap.size, 1, none⟩) (by simp; omega) (.slice A' (l1.length + b.length) c')
  refine bodyPost_ret (v := .tuple #[.agg #[.int .i64 f1, .slice A' (l1.length + b.length) c'], .int .i64 0]) (by simp [results, Try.results10, go_sem, e1.rules.1]) rfl ⟨A', c', by simp, ?_, ?_⟩
  · rw [List.length_append]
    exact own_more (own_setBlk (own_setBlk (own_setBlk hown' d0 (by decide) _ _) e1 (by decide) _ _) (e1.set_ _ _) (by decide) _ _) (by omega)
  · exact ((bb2.setCell (by simp; omega) _).setCell (by simp) _).setCell (by simp) _

theorem rtype_full {lo up : Nat} {f : Int} {A : Option Addr} {n c : Nat} {l : List UInt8} {A2 : Option Addr} {n2 c2 : Nat} {w : World} (hr : Sl w lo up 1 A n c (byteCells l)) (hup : up ≤ w.heap.size)
    (hn2 : n2 ≤ 140737488355328) (hfit : 64 < (kOf f l).2.length + n2 ∨ 4611686018427387839 - ((kOf f l).2.length + n2) < (kOf f l).1) :
    Calls Try.prog 10 #[.agg #[.int .i64 f, .slice A n c], .slice A2 n2 c2] w (RetTE w (kOf f l).1 (kOf f l).2 210) := by
  have hl : n = l.length := by have := hr.len; rw [byteCells_length] at this; omega
  subst hl
  have hle := kOf_le f l
  have hof := fun W lo up h1 h2 => rof_any (lo := lo) (up := up) (f := f) (A := A) (n := l.length) (c := c) (l := l) (w := W) h1 h2
  generalize (kOf f l).1 = f1 at *
  generalize (kOf f l).2 = l1 at *
  obtain ⟨hle1, hle2, hle3⟩ := hle
  have Hof := Lib.hid hof
  clear hof
  go_enter Try.func10, Try.ntmps10
  go_wp2_with fail
  have a1 : Blk ((w.alloc (.cells #[.int .i64 f, .slice A l.length c] 24)).alloc (.cells #[.int .i64 0, .slice none 0 0] 24)) (w.heap.size + 1) 24 #[.int .i64 0, .slice none 0 0] := Blk.new _ _ _ (by simp)
  have ar := (hr.alloc hup (.cells #[.int .i64 f, .slice A l.length c] 24)).alloc (by simp; omega) (.cells #[.int .i64 0, .slice none 0 0] 24)
  have ab := ((Below.refl w.heap.size w).alloc (Nat.le_refl _) (.cells #[.int .i64 f, .slice A l.length c] 24)).alloc (by simp) (.cells #[.int .i64 0, .slice none 0 0] 24)
  refine (Hof.out _ _ _ ar (by simp; omega)).mono ?_
  rintro e w1 ⟨A1, c1, rfl, hown, hb⟩
  have b1 := a1.later hb
  have bb := ab.trans (hb.mono (by simp; omega))
  have hz : w.heap.size + 2 ≤ w1.heap.size := by have := hb.size; simp at this; omega
  have hown := own_more (base' := w.heap.size + 2) hown (by simp)
  have d1 := b1.alloc (.cells #[.int .i64 f1, .slice A1 l1.length c1] 24)
  have hown2 := own_alloc hown (.cells #[.int .i64 f1, .slice A1 l1.length c1] 24)
  have bb2 := bb.alloc (by omega) (.cells #[.int .i64 f1, .slice A1 l1.length c1] 24)
  have ⟨kc1, ke1⟩ := d1.rules
  clear a1 ar ab hb hown bb
  go_wp2
  all_goals
    refine bodyPost_ret (v := .tuple #[.agg #[.int .i64 f1, .slice A1 l1.length c1], .int .i64 210]) (by simp [results, Try.results10, go_sem, kc1]) rfl ⟨A1, c1, rfl, ?_, ?_⟩
    · exact own_more (own_setBlk (own_setBlk hown2 d1 (by decide) _ _) (d1.set_ _ _) (by decide) _ _) (by omega)
    · exact (bb2.setCell (by simp) _).setCell (by simp) _

/-- Type: what waits with more typed, and the error. -/
def kType (f : Int) (l b : List UInt8) : Int × List UInt8 × Int :=
  if (kOf f l).2.length + b.length ≤ 64 ∧ (kOf f l).1 ≤ 4611686018427387839 - (((kOf f l).2.length : Int) + b.length) then ((kOf f l).1, (kOf f l).2 ++ b, 0) else ((kOf f l).1, (kOf f l).2, 210)

theorem type_any {lo up lo2 up2 : Nat} {f : Int} {A : Option Addr} {n c : Nat} {l : List UInt8} {A2 : Option Addr} {n2 c2 : Nat} {b : List UInt8} {w : World} (hr : Sl w lo up 1 A n c (byteCells l)) (hup : up ≤ w.heap.size)
    (hr2 : Sl w lo2 up2 1 A2 n2 c2 (byteCells b)) (hup2 : up2 ≤ w.heap.size) (hn2 : n2 ≤ 140737488355328) :
    Calls Try.prog 9 #[.agg #[.int .i64 f, .slice A n c], .slice A2 n2 c2] w (RetTE w (kType f l b).1 (kType f l b).2.1 (kType f l b).2.2) := by
  have hl2 : n2 = b.length := by have := hr2.len; rw [byteCells_length] at this; omega
  unfold kType
  by_cases h : (kOf f l).2.length + b.length ≤ 64 ∧ (kOf f l).1 ≤ 4611686018427387839 - (((kOf f l).2.length : Int) + b.length)
  · rw [if_pos h]; exact type_ok hr hup hr2 hup2 h
  · rw [if_neg h]; exact type_full hr hup hn2 (by omega)
theorem rtype_any {lo up lo2 up2 : Nat} {f : Int} {A : Option Addr} {n c : Nat} {l : List UInt8} {A2 : Option Addr} {n2 c2 : Nat} {b : List UInt8} {w : World} (hr : Sl w lo up 1 A n c (byteCells l)) (hup : up ≤ w.heap.size)
    (hr2 : Sl w lo2 up2 1 A2 n2 c2 (byteCells b)) (hup2 : up2 ≤ w.heap.size) (hn2 : n2 ≤ 140737488355328) :
    Calls Try.prog 10 #[.agg #[.int .i64 f, .slice A n c], .slice A2 n2 c2] w (RetTE w (kType f l b).1 (kType f l b).2.1 (kType f l b).2.2) := by
  have hl2 : n2 = b.length := by have := hr2.len; rw [byteCells_length] at this; omega
  unfold kType
  by_cases h : (kOf f l).2.length + b.length ≤ 64 ∧ (kOf f l).1 ≤ 4611686018427387839 - (((kOf f l).2.length : Int) + b.length)
  · rw [if_pos h]; exact rtype_ok hr hup hr2 hup2 h
  · rw [if_neg h]; exact rtype_full hr hup hn2 (by omega)
end Go.Proofs.Ytdiphckbnendlaa
