/- The walk of KeysTells. -/
import Derived.Test.YtdiphckbnendlaaI
namespace Go.Proofs.Ytdiphckbnendlaa
set_option linter.unusedVariables false
open Go.RowKit
attribute [local go_sem ↓] Go.wp_at_zero Go.wp_at_succ

theorem tells_long {f : Int} {A : Option Addr} {n c : Nat} {A2 : Option Addr} {n2 c2 : Nat} {m t : Int} {w : World} (hn : 300 < n ∨ 300 < n2) :
    Calls Try.prog 3 #[.agg #[.int .i64 f, .slice A n c], .slice A2 n2 c2, .int .i64 m, .int .i64 t] w fun e w' => e = .returned (.bool true) ∧ Below w.heap.size w w' := by
  go_enter Try.func3, Try.ntmps3
  go_wp2_with fail
  refine (awake_any _).mono ?_
  rintro e w1 ⟨rfl, hb1⟩
  have b0 := (Blk.new w 24 #[.int .i64 f, .slice A n c] rfl).later hb1
  have bb := ((Below.refl w.heap.size w).alloc (Nat.le_refl _) _).trans (hb1.mono (by simp))
  have ⟨kc, ke⟩ := b0.rules
  rcases hn with hn | hn
  all_goals
    go_wp2
    all_goals
      go_ret
      exact ⟨rfl, bb⟩

set_option maxRecDepth 100000 in
set_option maxHeartbeats 4000000 in
theorem tells_short {f : Int} {A : Option Addr} {n c : Nat} {l : List UInt8} {A2 : Option Addr} {n2 c2 : Nat} {b : List UInt8} {m t : Int} {w : World} (hr : Sl w 0 w.heap.size 1 A n c (byteCells l)) (hr2 : Sl w 0 w.heap.size 1 A2 n2 c2 (byteCells b))
    (hn : n ≤ 300) (hn2 : n2 ≤ 300) (ht : -9223372036854775808 ≤ t ∧ t ≤ 9223372036854775807) :
    Calls Try.prog 3 #[.agg #[.int .i64 f, .slice A n c], .slice A2 n2 c2, .int .i64 m, .int .i64 t] w fun e w' => e = .returned (.bool true) ∧ Below w.heap.size w w' := by
  have T1 := fun W lo up lo2 up2 h1 h2 h3 h4 => type_any (lo := lo) (up := up) (lo2 := lo2) (up2 := up2) (f := f) (A := A) (n := n) (c := c) (l := l) (A2 := A2) (n2 := n2) (c2 := c2) (b := b) (w := W) h1 h2 h3 h4 (by omega)
  have T2 := fun W lo up lo2 up2 h1 h2 h3 h4 => rtype_any (lo := lo) (up := up) (lo2 := lo2) (up2 := up2) (f := f) (A := A) (n := n) (c := c) (l := l) (A2 := A2) (n2 := n2) (c2 := c2) (b := b) (w := W) h1 h2 h3 h4 (by omega)
  have P1 := fun W lo up h1 h2 => part_any (lo := lo) (up := up) (f := f) (m := m) (t := t) (A := A) (n := n) (c := c) (l := l) (w := W) h1 h2 ht
  have P2 := fun W lo up h1 h2 => rpart_any (lo := lo) (up := up) (f := f) (m := m) (t := t) (A := A) (n := n) (c := c) (l := l) (w := W) h1 h2
  have K1 := fun W lo up h1 h2 => acked_any (lo := lo) (up := up) (f := f) (m := m) (A := A) (n := n) (c := c) (l := l) (w := W) h1 h2
  have K2 := fun W lo up h1 h2 => racked_any (lo := lo) (up := up) (f := f) (m := m) (A := A) (n := n) (c := c) (l := l) (w := W) h1 h2
  generalize (kType f l b).1 = xf at *
  generalize (kType f l b).2.1 = xl at *
  generalize (kType f l b).2.2 = xe at *
  generalize (kPart f l m t).1 = pf at *
  generalize (kPart f l m t).2.1 = pl at *
  generalize (kPart f l m t).2.2 = pb at *
  generalize (kAcked f l m).1 = af at *
  generalize (kAcked f l m).2 = al at *
  have HT1 := Lib.hid T1; clear T1
  have HT2 := Lib.hid T2; clear T2
  have HP1 := Lib.hid P1; clear P1
  have HP2 := Lib.hid P2; clear P2
  have HK1 := Lib.hid K1; clear K1
  have HK2 := Lib.hid K2; clear K2
  go_enter Try.func3, Try.ntmps3
  go_wp2_with fail
  refine (awake_any _).mono ?_
  rintro e w1 ⟨rfl, hb1⟩
  have b0 := (Blk.new w 24 #[.int .i64 f, .slice A n c] rfl).later hb1
  have bb := ((Below.refl w.heap.size w).alloc (Nat.le_refl _) _).trans (hb1.mono (by simp))
  have z1 : w.heap.size + 1 ≤ w1.heap.size := by have := hb1.size; simp at this; omega
  clear hb1
  have ⟨kc, ke⟩ := b0.rules
  go_wp2_with fail
  refine (HT1.out _ _ _ _ _ (hr.below bb (Nat.le_refl _)) (by omega) (hr2.below bb (Nat.le_refl _)) (by omega)).mono ?_
  rintro e w2 ⟨X, cx, rfl, hx, hb2⟩
  clear kc ke
  have z2 := hb2.size
  have b0 := (b0.later hb2).alloc (.cells #[.int .i64 xf, .slice X xl.length cx] 24)
  have bx := Blk.new w2 24 #[.int .i64 xf, .slice X xl.length cx] rfl
  have sx := (Sl.of_own hx).alloc (Nat.le_refl _) (.cells #[.int .i64 xf, .slice X xl.length cx] 24)
  have bb := (bb.trans (hb2.mono (by omega))).alloc (by omega) (.cells #[.int .i64 xf, .slice X xl.length cx] 24)
  clear hb2 hx
  have ⟨kc, ke⟩ := b0.rules
  go_wp2_with fail
  refine (HT2.out _ _ _ _ _ (hr.below bb (Nat.le_refl _)) (by simp; omega) (hr2.below bb (Nat.le_refl _)) (by simp; omega)).mono ?_
  rintro e w3 ⟨Y, cy, rfl, hy, hb3⟩
  clear kc ke
  have z3 : w2.heap.size + 1 ≤ w3.heap.size := by have := hb3.size; simp at this; omega
  have b0 := (b0.later hb3).alloc (.cells #[.int .i64 xf, .slice Y xl.length cy] 24)
  have bx := (bx.later hb3).alloc (.cells #[.int .i64 xf, .slice Y xl.length cy] 24)
  have by_ := Blk.new w3 24 #[.int .i64 xf, .slice Y xl.length cy] rfl
  have sx := (sx.below hb3 (by simp)).alloc (by omega) (.cells #[.int .i64 xf, .slice Y xl.length cy] 24)
  have sy := (Sl.of_own hy).alloc (Nat.le_refl _) (.cells #[.int .i64 xf, .slice Y xl.length cy] 24)
  have bb := (bb.trans (hb3.mono (by simp; omega))).alloc (by omega) (.cells #[.int .i64 xf, .slice Y xl.length cy] 24)
  clear hb3 hy
  have ⟨kc, ke⟩ := b0.rules
  go_wp2_with fail
  refine (HP1.out _ _ _ (hr.below bb (Nat.le_refl _)) (by simp; omega)).mono ?_
  rintro e w4 ⟨D, cd, rfl, sd, hb4⟩
  clear kc ke
  have z4 : w3.heap.size + 1 ≤ w4.heap.size := by have := hb4.size; simp at this; omega
  have b0 := b0.later hb4
  have bx := bx.later hb4
  have by_ := by_.later hb4
  have sx := sx.below hb4 (by simp; omega)
  have sy := sy.below hb4 (by simp)
  have bb := bb.trans (hb4.mono (by simp; omega))
  clear hb4
  have ⟨kc, ke⟩ := b0.rules
  go_wp2_with fail
  refine (HP2.out _ _ _ (hr.below bb (Nat.le_refl _)) (by omega)).mono ?_
  rintro e w5 ⟨E, ce, rfl, se, hb5⟩
  clear kc ke
  have z5 := hb5.size
  have b0 := b0.later hb5
  have bx := bx.later hb5
  have by_ := by_.later hb5
  have sx := sx.below hb5 (by omega)
  have sy := sy.below hb5 (by omega)
  have sd := sd.below hb5 (Nat.le_refl _)
  have bb := bb.trans (hb5.mono (by omega))
  clear hb5
  have ⟨kc, ke⟩ := b0.rules
  have ⟨kcx, kex⟩ := bx.rules
  have ⟨kcy, key⟩ := by_.rules
  go_wp2_with fail
  have tok1 : True := trivial
  go_region_held3 (fun w' => w'.cell? ⟨w2.heap.size, 0, none⟩ = some (.int .i64 xf) ∧ w'.cell? ⟨w2.heap.size, 1, none⟩ = some (.slice X xl.length cx) ∧ w'.cell? ⟨w3.heap.size, 0, none⟩ = some (.int .i64 xf) ∧ w'.cell? ⟨w3.heap.size, 1, none⟩ = some (.slice Y xl.length cy) ∧ w'.cell? ⟨w.heap.size, 0, none⟩ = some (.int .i64 f) ∧ w'.cell? ⟨w.heap.size, 1, none⟩ = some (.slice A n c))
    (first | exact ⟨kcx 0, kcx 1, kcy 0, kcy 1, kc 0, kc 1⟩ | exact ⟨(x6.rules.1 0), (x6.rules.1 1), (y6.rules.1 0), (y6.rules.1 1), (t6.rules.1 0), (t6.rules.1 1)⟩ | exact ⟨(x7.rules.1 0), (x7.rules.1 1), (y7.rules.1 0), (y7.rules.1 1), (t7.rules.1 0), (t7.rules.1 1)⟩ | exact ⟨(x8.rules.1 0), (x8.rules.1 1), (y8.rules.1 0), (y8.rules.1 1), (t8.rules.1 0), (t8.rules.1 1)⟩ | exact ⟨(x9.rules.1 0), (x9.rules.1 1), (y9.rules.1 0), (y9.rules.1 1), (t9.rules.1 0), (t9.rules.1 1)⟩)
    (first
      | (go_at_call 13; have _t := tok1; (refine (same_yes sx.drew (by simp <;> omega) sy.drew (by simp <;> omega)).mono ?_); clear tok1; rintro e w6 ⟨rfl, hb6⟩; have x6 := Blk.later (w := w5.drew) bx hb6; have y6 := Blk.later (w := w5.drew) by_ hb6; have t6 := Blk.later (w := w5.drew) b0 hb6; have bb6 := bb.drew.trans (hb6.mono (by simp <;> omega)); have z6 := hb6.size; have sd6 := (sd.drew.below hb6 (by simp <;> omega)); have se6 := (se.drew.below hb6 (by simp <;> omega)))
      | (go_at_call 14; refine (HK1.out _ _ _ (hr.below bb6 (Nat.le_refl _)) (by simp at z6; omega)).mono ?_; rintro e w7 ⟨F, cf, rfl, sf, hb7⟩; have x7 := x6.later hb7; have y7 := y6.later hb7; have t7 := t6.later hb7; have bb7 := bb6.trans (hb7.mono (by simp at z6; omega)); have z7 := hb7.size; have sd7 := (sd6.below hb7 (by simp at z6; omega)); have se7 := (se6.below hb7 (by simp at z6; omega)))
      | (go_at_call 15; refine (HK2.out _ _ _ (hr.below bb7 (Nat.le_refl _)) (by simp at z6; omega)).mono ?_; rintro e w8 ⟨G, cg, rfl, sg, hb8⟩; have x8 := x7.later hb8; have y8 := y7.later hb8; have t8 := t7.later hb8; have bb8 := bb7.trans (hb8.mono (by simp at z6; omega)); have z8 := hb8.size; have sd8 := (sd7.below hb8 (by simp at z6; omega)); have se8 := (se7.below hb8 (by simp at z6; omega)); have sf8 := sf.below hb8 (Nat.le_refl _))
      | (go_at_call 13; refine (same_yes sf8 (by omega) sg (Nat.le_refl _)).mono ?_; rintro e w9 ⟨rfl, hb9⟩; have x9 := x8.later hb9; have y9 := y8.later hb9; have t9 := t8.later hb9; have bb9 := bb8.trans (hb9.mono (by simp at z6; omega)); have z9 := hb9.size; have sd9 := (sd8.below hb9 (by simp at z6; omega)); have se9 := (se8.below hb9 (by simp at z6; omega))))
  have q1 := run_string_of (dst := 9) sd9 Try.underlying22 Try.underlying5 Try.underlying9
  have q2 := run_string_of (dst := 9) se9 Try.underlying22 Try.underlying5 Try.underlying9
  clear kc kcx kcy ke kex key x6 x7 x8 x9 y6 y7 y8 y9 t6 t7 t8 t9 sd6 sd7 sd8 se6 se7 se8 sx sy sf sf8 sg
  go_wp2
  go_ret
  exact ⟨rfl, bb9⟩
end Go.Proofs.Ytdiphckbnendlaa
