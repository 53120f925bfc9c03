/- The calls at every statement's head; the walks of RangesTells and RangesOf. -/
import Derived.Test.YtgckedeaoglehaaL
namespace Go.Proofs.Ytgckedeaoglehaa
open Go.RowKit
set_option linter.unusedVariables false
set_option linter.unusedSimpArgs false
attribute [local go_sem ↓] Go.wp_at_zero Go.wp_at_succ

theorem p1 : rOfs [3, 9, 4, 8] = [(8, 9), (3, 4)] := by decide
theorem p2 : rAdd [(8, 9), (3, 4)] 6 = [(8, 9), (6, 6), (3, 4)] := by decide
theorem p3 : rOk [(8, 9), (3, 4)] = true := by decide
theorem p4 : rOk [(2, 1)] = false := by decide
theorem p5 : rHas (rOf [(8, 9), (3, 4)]) 4 = true := by decide
theorem p6 : rHas (rOf [(8, 9), (3, 4)]) 5 = false := by decide
theorem p7 : rMany (rOf [(8, 9), (3, 4)]) = 4 := by decide

theorem wf_l : rWf [(8, 9), (3, 4)] := by intro p hp; simp at hp; rcases hp with rfl | rfl <;> simp

set_option maxRecDepth 100000 in
set_option maxHeartbeats 4000000 in
theorem awake_any (w : World) : Calls Try.prog 8 #[] w fun e w' => e = .returned (.bool true) ∧ Below w.heap.size w w' := by
  go_enter Try.func8, Try.ntmps8
  go_wp2_with fail
  have q1 := ofs_any (Sl.new w 3 #[.int .i64 3, .int .i64 9, .int .i64 4, .int .i64 8] 1 4 4 (intCells [3, 9, 4, 8]) rfl (by omega) rfl rfl) (by simp) (by omega) (by intro x hx; simp at hx; omega)
  rw [p1] at q1
  refine q1.mono ?_
  clear q1
  rintro e w1 ⟨A1, c1, rfl, hown1, hb1⟩
  have bb := ((Below.refl _ w).alloc (Nat.le_refl _) (.cells #[.int .i64 3, .int .i64 9, .int .i64 4, .int .i64 8] 3)).trans (hb1.mono (by simp))
  have s1 := Sl.of_own hown1
  have z1 := bb.size
  clear hown1 hb1
  go_wp2_with fail
  have q2 := add_any (x := 6) s1 (Nat.le_refl _) (by simp) wf_l (by omega)
  rw [p2] at q2
  refine q2.mono ?_
  clear q2
  rintro e w2 ⟨A2, c2, rfl, hown2, hb2⟩
  have s1 := s1.below hb2 (Nat.le_refl _)
  have s2 := Sl.of_own hown2
  have bb := bb.trans (hb2.mono z1)
  have z2 := hb2.size
  clear hown2 hb2
  go_wp2_with fail
  have s1a := s1.alloc (by omega) (.cells #[.int .i64 8, .int .i64 9, .int .i64 3, .int .i64 4] 34)
  have s2a := s2.alloc (Nat.le_refl _) (.cells #[.int .i64 8, .int .i64 9, .int .i64 3, .int .i64 4] 34)
  have bba := bb.alloc (by omega) (.cells #[.int .i64 8, .int .i64 9, .int .i64 3, .int .i64 4] 34)
  refine (same_any s1a (Sl.new w2 34 #[.int .i64 8, .int .i64 9, .int .i64 3, .int .i64 4] 2 2 2 (rCells [(8, 9), (3, 4)]) rfl (by omega) rfl rfl) (by simp) (by omega) true (by simp)).mono ?_
  rintro e w3 ⟨rfl, hb3⟩
  have z3 := hb3.size
  simp only [World.size_alloc] at z3
  have s1 := s1a.below hb3 (by simp; omega)
  have s2 := s2a.below hb3 (by simp)
  have bb := bba.trans (hb3.mono (by simp; omega))
  clear hb3 s1a s2a bba
  go_wp2_with fail
  have s1a := s1.alloc (by omega) (.cells #[.int .i64 8, .int .i64 9, .int .i64 6, .int .i64 6, .int .i64 3, .int .i64 4] 34)
  have s2a := s2.alloc (by omega) (.cells #[.int .i64 8, .int .i64 9, .int .i64 6, .int .i64 6, .int .i64 3, .int .i64 4] 34)
  have bba := bb.alloc (by omega) (.cells #[.int .i64 8, .int .i64 9, .int .i64 6, .int .i64 6, .int .i64 3, .int .i64 4] 34)
  refine (same_any s2a (Sl.new w3 34 #[.int .i64 8, .int .i64 9, .int .i64 6, .int .i64 6, .int .i64 3, .int .i64 4] 2 3 3 (rCells [(8, 9), (6, 6), (3, 4)]) rfl (by omega) rfl rfl) (by simp) (by omega) true (by simp)).mono ?_
  rintro e w4 ⟨rfl, hb4⟩
  have z4 := hb4.size
  simp only [World.size_alloc] at z4
  have s1 := s1a.below hb4 (by simp; omega)
  have bb := bba.trans (hb4.mono (by simp; omega))
  clear hb4 s1a s2a bba s2
  go_wp2_with fail
  refine (check_any s1 (by omega) (by simp) wf_l true (by rw [← rOk_iff, p3])).mono ?_
  rintro e w5 ⟨rfl, hb5⟩
  have z5 := hb5.size
  have s1 := s1.below hb5 (by omega)
  have bb := bb.trans (hb5.mono (by omega))
  clear hb5
  go_wp2_with fail
  have s1a := s1.alloc (by omega) (.cells #[.int .i64 2, .int .i64 1] 34)
  have bba := bb.alloc (by omega) (.cells #[.int .i64 2, .int .i64 1] 34)
  refine (check_any (Sl.new w5 34 #[.int .i64 2, .int .i64 1] 2 1 1 (rCells [(2, 1)]) rfl (by omega) rfl rfl) (by simp) (by omega) (by intro p hp; simp at hp; subst hp; simp) false (by rw [← rOk_iff, p4])).mono ?_
  rintro e w6 ⟨rfl, hb6⟩
  have z6 := hb6.size
  simp only [World.size_alloc] at z6
  have s1 := s1a.below hb6 (by simp; omega)
  have bb := bba.trans (hb6.mono (by simp; omega))
  clear hb6 s1a bba
  go_wp2_with fail
  have q3 := has_any (x := 4) s1 (by omega) (by simp) wf_l
  rw [p5] at q3
  refine q3.mono ?_
  clear q3
  rintro e w7 ⟨rfl, hb7⟩
  have z7 := hb7.size
  have s1 := s1.below hb7 (by omega)
  have bb := bb.trans (hb7.mono (by omega))
  clear hb7
  go_wp2_with fail
  have q3 := has_any (x := 5) s1 (by omega) (by simp) wf_l
  rw [p6] at q3
  refine q3.mono ?_
  clear q3
  rintro e w8 ⟨rfl, hb8⟩
  have z8 := hb8.size
  have s1 := s1.below hb8 (by omega)
  have bb := bb.trans (hb8.mono (by omega))
  clear hb8
  go_wp2_with fail
  have q3 := many_any s1 (by omega) (by simp) wf_l
  rw [p7] at q3
  refine q3.mono ?_
  clear q3
  rintro e w9 ⟨rfl, hb9⟩
  have bb := bb.trans (hb9.mono (by omega))
  clear hb9
  go_wp2
  go_ret
  exact ⟨rfl, bb⟩

theorem tells_long {A : Option Addr} {n c : Nat} {x : Int} {w : World} (hn : 40 < n) : Calls Try.prog 3 #[.slice A n c, .int .i64 x] w fun e w' => e = .returned (.bool true) ∧ Below w.heap.size w w' := by
  go_enter Try.func3, Try.ntmps3
  go_wp2_with fail
  refine (awake_any _).mono ?_
  rintro e w1 ⟨rfl, bb⟩
  go_wp2
  go_ret
  exact ⟨rfl, bb⟩

set_option maxHeartbeats 4000000 in
theorem tells_short {A : Option Addr} {n c : Nat} {l : List (Int × Int)} {x : Int} {w : World} (hr : Sl w 0 w.heap.size 2 A n c (rCells l)) (hn : n ≤ 40) (hl : rWf l) (hx : -9223372036854775808 ≤ x ∧ x ≤ 9223372036854775807) :
    Calls Try.prog 3 #[.slice A n c, .int .i64 x] w fun e w' => e = .returned (.bool true) ∧ Below w.heap.size w w' := by
  have H1 := Lib.hid (fun W (h : Sl W 0 w.heap.size 2 A n c (rCells l)) (hu : w.heap.size ≤ W.heap.size) => add_any h hu (by omega) hl hx)
  have H2 := Lib.hid (fun W (h : Sl W 0 w.heap.size 2 A n c (rCells l)) (hu : w.heap.size ≤ W.heap.size) => radd_any h hu (by omega) hl hx)
  have H3 := Lib.hid (fun W (h : Sl W 0 w.heap.size 2 A n c (rCells l)) (hu : w.heap.size ≤ W.heap.size) => check_any h hu (by omega) hl (rOk l) (rOk_iff l))
  have H4 := Lib.hid (fun W (h : Sl W 0 w.heap.size 2 A n c (rCells l)) (hu : w.heap.size ≤ W.heap.size) => rcheck_any h hu (by omega) hl (rOk l) (rOk_iff l))
  have H5 := Lib.hid (fun W (h : Sl W 0 w.heap.size 2 A n c (rCells l)) (hu : w.heap.size ≤ W.heap.size) => has_any (x := x) h hu (by omega) hl)
  have H6 := Lib.hid (fun W (h : Sl W 0 w.heap.size 2 A n c (rCells l)) (hu : w.heap.size ≤ W.heap.size) => rhas_any (x := x) h hu (by omega) hl)
  have H7 := Lib.hid (fun W (h : Sl W 0 w.heap.size 2 A n c (rCells l)) (hu : w.heap.size ≤ W.heap.size) => many_any h hu (by omega) hl)
  have H8 := Lib.hid (fun W (h : Sl W 0 w.heap.size 2 A n c (rCells l)) (hu : w.heap.size ≤ W.heap.size) => rmany_any h hu (by omega) hl)
  have hF : (rAdd l x).length ≤ 16 := (rOk_desc (rAdd_ok l x)).2
  have HR := Lib.hid hr
  generalize rAdd l x = F at *
  generalize rOk l = b1 at *
  generalize rHas (rOf l) x = b2 at *
  generalize rMany (rOf l) = b3 at *
  clear hr hl
  go_enter Try.func3, Try.ntmps3
  go_wp2_with fail
  refine (awake_any _).mono ?_
  rintro e w1 ⟨rfl, bb⟩
  have z1 := bb.size
  go_wp2_with fail
  refine (H1.out _ (HR.out.below bb (Nat.le_refl _)) z1).mono ?_
  rintro e w2 ⟨A2, c2, rfl, hown2, hb2⟩
  have bb := bb.trans (hb2.mono z1)
  have z2 := bb.size
  clear hb2
  go_wp2_with fail
  refine (H2.out _ (HR.out.below bb (Nat.le_refl _)) z2).mono ?_
  rintro e w3 ⟨A3, c3, rfl, hown3, hb3⟩
  have bb := bb.trans (hb3.mono z2)
  have z3 := bb.size
  have s2 := (Sl.of_own hown2).below hb3 (Nat.le_refl _)
  have HS := Lib.hid (And.intro s2 (Sl.of_own hown3))
  clear hb3 hown2 hown3 s2
  go_wp2_with fail
  refine (same_any HS.out.1 HS.out.2 (by omega) (by omega) true (by simp)).mono ?_
  rintro e w4 ⟨rfl, hb4⟩
  have bb := bb.trans (hb4.mono z3)
  have z4 := bb.size
  clear hb4 HS
  go_wp2_with fail
  refine (H3.out _ (HR.out.below bb (Nat.le_refl _)) z4).mono ?_
  rintro e w5 ⟨rfl, hb5⟩
  have bb := bb.trans (hb5.mono z4)
  have z5 := bb.size
  clear hb5
  go_wp2_with fail
  refine (H4.out _ (HR.out.below bb (Nat.le_refl _)) z5).mono ?_
  rintro e w6 ⟨rfl, hb6⟩
  have bb := bb.trans (hb6.mono z5)
  have z6 := bb.size
  clear hb6
  go_wp2_with fail
  refine (H5.out _ (HR.out.below bb (Nat.le_refl _)) z6).mono ?_
  rintro e w7 ⟨rfl, hb7⟩
  have bb := bb.trans (hb7.mono z6)
  have z7 := bb.size
  clear hb7
  go_wp2_with fail
  refine (H6.out _ (HR.out.below bb (Nat.le_refl _)) z7).mono ?_
  rintro e w8 ⟨rfl, hb8⟩
  have bb := bb.trans (hb8.mono z7)
  have z8 := bb.size
  clear hb8
  go_wp2_with fail
  refine (H7.out _ (HR.out.below bb (Nat.le_refl _)) z8).mono ?_
  rintro e w9 ⟨rfl, hb9⟩
  have bb := bb.trans (hb9.mono z8)
  have z9 := bb.size
  clear hb9
  go_wp2_with fail
  refine (H8.out _ (HR.out.below bb (Nat.le_refl _)) z9).mono ?_
  rintro e w10 ⟨rfl, hb10⟩
  have bb := bb.trans (hb10.mono z9)
  clear hb10
  go_wp2
  go_ret
  exact ⟨rfl, bb⟩

theorem of_long {A : Option Addr} {n c : Nat} {w : World} (hn : 200 < n) : Calls Try.prog 4 #[.slice A n c] w fun e w' => e = .returned (.bool true) ∧ Below w.heap.size w w' := by
  go_enter Try.func4, Try.ntmps4
  go_wp2_with fail
  refine (awake_any _).mono ?_
  rintro e w1 ⟨rfl, bb⟩
  go_wp2
  go_ret
  exact ⟨rfl, bb⟩

set_option maxHeartbeats 4000000 in
theorem of_short {A : Option Addr} {n c : Nat} {l : List Int} {w : World} (hr : Sl w 0 w.heap.size 1 A n c (intCells l)) (hn : n ≤ 200) (hl : iWf l) :
    Calls Try.prog 4 #[.slice A n c] w fun e w' => e = .returned (.bool true) ∧ Below w.heap.size w w' := by
  have H1 := Lib.hid (fun W (h : Sl W 0 w.heap.size 1 A n c (intCells l)) (hu : w.heap.size ≤ W.heap.size) => ofs_any h hu (by omega) hl)
  have H2 := Lib.hid (fun W (h : Sl W 0 w.heap.size 1 A n c (intCells l)) (hu : w.heap.size ≤ W.heap.size) => rofs_any h hu (by omega) hl)
  have hF := rOfs_len l
  have HR := Lib.hid hr
  generalize rOfs l = F at *
  clear hr hl
  go_enter Try.func4, Try.ntmps4
  go_wp2_with fail
  refine (awake_any _).mono ?_
  rintro e w1 ⟨rfl, bb⟩
  have z1 := bb.size
  go_wp2_with fail
  refine (H1.out _ (HR.out.below bb (Nat.le_refl _)) z1).mono ?_
  rintro e w2 ⟨A2, c2, rfl, hown2, hb2⟩
  have bb := bb.trans (hb2.mono z1)
  have z2 := bb.size
  clear hb2
  go_wp2_with fail
  refine (H2.out _ (HR.out.below bb (Nat.le_refl _)) z2).mono ?_
  rintro e w3 ⟨A3, c3, rfl, hown3, hb3⟩
  have bb := bb.trans (hb3.mono z2)
  have z3 := bb.size
  have s2 := (Sl.of_own hown2).below hb3 (Nat.le_refl _)
  have HS := Lib.hid (And.intro s2 (Sl.of_own hown3))
  clear hb3 hown2 hown3 s2
  go_wp2_with fail
  refine (same_any HS.out.1 HS.out.2 (by omega) (by omega) true (by simp)).mono ?_
  rintro e w4 ⟨rfl, hb4⟩
  have bb := bb.trans (hb4.mono z3)
  clear hb4 HS
  go_wp2
  go_ret
  exact ⟨rfl, bb⟩
end Go.Proofs.Ytgckedeaoglehaa
