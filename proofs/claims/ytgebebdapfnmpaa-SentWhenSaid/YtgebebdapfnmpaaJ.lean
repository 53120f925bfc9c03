/- The calls at every statement's head. -/
import Derived.Test.YtgebebdapfnmpaaI
namespace Go.Proofs.Ytgebebdapfnmpaa
open Go.RowKit
set_option linter.unusedVariables false
set_option linter.unusedSimpArgs false
attribute [local go_sem ↓] Go.wp_at_zero Go.wp_at_succ

def aw : List Pk := [⟨1, 10, 100, true, false⟩, ⟨2, 20, 100, true, false⟩, ⟨3, 30, 100, true, false⟩, ⟨4, 40, 100, false, false⟩]
theorem aw_ok : pOk aw := by
  refine ⟨?_, by decide⟩
  intro i h
  have : i = 0 ∨ i = 1 ∨ i = 2 ∨ i = 3 := by simp [aw] at h; omega
  rcases this with rfl | rfl | rfl | rfl <;> simp [aw, pBad, tm]
theorem aw_wf : pWf aw := by intro p hp; simp [aw] at hp; rcases hp with rfl | rfl | rfl | rfl <;> simp
theorem aw1 : aw.filter (lostIs 5 (tm 0) (tm 100)) = [⟨1, 10, 100, true, false⟩, ⟨2, 20, 100, true, false⟩] := by rfl
theorem aw2 : (aw.filter fun p => !lostIs 5 (tm 0) (tm 100) p) = [⟨3, 30, 100, true, false⟩, ⟨4, 40, 100, false, false⟩] := by rfl
theorem aw3 : aw.filter (lostIs 5 (tm 130) (tm 100)) = [⟨1, 10, 100, true, false⟩, ⟨2, 20, 100, true, false⟩, ⟨3, 30, 100, true, false⟩] := by rfl
theorem aw4 : aw.filter (fun p => rHas (rOf [(2, 3)]) p.no) = [⟨2, 20, 100, true, false⟩, ⟨3, 30, 100, true, false⟩] := by rfl
theorem aw5 : aw.filter (fun p => !rHas (rOf [(2, 3)]) p.no) = [⟨1, 10, 100, true, false⟩, ⟨4, 40, 100, false, false⟩] := by rfl
theorem aw6 : wh 5 (tm 100) aw = (110, true) := by rfl
theorem aw7 : la aw = (30, true) := by rfl
theorem aw8 : fl aw = 300 := by rfl
theorem aw9 : ¬ (pGood [⟨-1, 0, 0, false, false⟩] ∧ [(⟨-1, 0, 0, false, false⟩ : Pk)].length ≤ 300) := by
  intro h
  exact h.1 0 (by simp) (.inl (by simp))
theorem aw23 : rWf [(2, 3)] := by intro p hp; simp at hp; subst hp; simp

set_option maxRecDepth 100000 in
set_option maxHeartbeats 8000000 in
theorem awake_any (w : World) : Calls Try.prog 6 #[] w fun e w' => e = .returned (.bool true) ∧ Below w.heap.size w w' := by
  obtain ⟨i0, hi0, hz0, hz1, hz2⟩ := info_parts info27
  go_enter Try.func6, Try.ntmps6
  go_wp2_with fail
  go_loopg [1, 2] 4 (fun gh s1 s2 wr => ∃ (i : Nat) (A : Option Addr) (c : Nat), gh = 4 - i ∧ i ≤ 4 ∧ s1 = .slice A i c ∧ s2 = .int .i64 (i + 1) ∧ wr.ownsRow w.heap.size 27 5 (.slice A i c) i (pCells (aw.take i)) ∧ Below w.heap.size w wr)
  case atStart => exact ⟨0, none, 0, by omega, by omega, rfl, rfl, World.ownsRow_nil _ _ _ _, Below.refl _ _⟩
  case round =>
    obtain ⟨i, A, c, hg, hi, rfl, rfl, hown, bb⟩ := hrel
    have z0 := bb.size
    by_cases h : i < 4
    · obtain ⟨p, hp⟩ : ∃ p, p = (⟨(i : Int) + 1, 10 * ((i : Int) + 1), 100, decide ((i : Int) + 1 < 4), false⟩ : Pk) := ⟨_, rfl⟩
      have htk : aw.take (i + 1) = aw.take i ++ [p] := by
        have : i = 0 ∨ i = 1 ∨ i = 2 ∨ i = 3 := by omega
        rcases this with rfl | rfl | rfl | rfl <;> (subst hp; rfl)
      have Htk := Lib.hid htk
      have HP := Lib.hid hp
      clear htk
      go_wp2_with (at_builtin; refine wpList_append_sl2 _ rfl (.tmp 18) (.tmp 25) 22 rfl w.heap.size 27 i0 _ 5 32 Try.underlying22 hi0 hz0 hz1 hz2 rfl (by omega) (.slice A i c) i _ rfl (own_alloc hown _) wr.heap.size (wr.heap.size + 1) _ 1 1 _ rfl (sl_pk (w := wr) (p := ⟨(i : Int) + 1, 10 * ((i : Int) + 1), 100, decide ((i : Int) + 1 < 4), false⟩) rfl) (pCells_one _) (i + 1) rfl _ (pCells_append (aw.take i) [_]).symm (by unfold maxLen; omega) (by omega) (by simp; omega) ?_; intro A4 c4 w4 hown4 hg4 hbl4)
      go_roundg (4 - (i + 1))
      case measure => omega
      case rel =>
        refine ⟨i + 1, A4, c4, rfl, by omega, rfl, by simp, ?_, ?_⟩
        · rw [Htk.out, HP.out]; exact hown4
        · exact (bb.alloc z0 _).grown hg4 (by simp; omega) (fun k e => (hown.lt k e).1)
    · obtain rfl : i = 4 := by omega
      have s0 : Sl wr w.heap.size wr.heap.size 5 A 4 c (pCells aw) := Sl.of_own hown
      clear hown
      go_wp2_with fail
      have q1 := lost_any s0 (Nat.le_refl _) (by omega) aw_wf (.inl ⟨aw_ok, rfl⟩) 5 0 100 (by omega)
      rw [aw1, aw2] at q1
      refine q1.mono ?_
      clear q1
      rintro e w1 ⟨A1, c1, A2, c2, rfl, o1, o2, hb⟩
      simp only [List.length_cons, List.length_nil, Nat.reduceAdd, Nat.zero_add] at o1 o2 ⊢
      have sa := Sl.of_own o1
      have z1 := hb.size
      have s0 := s0.below hb (Nat.le_refl _)
      have bb := bb.trans (hb.mono z0)
      clear hb o1 o2
      go_wp2_with fail
      have q1 := lost_any s0 (by omega) (by omega) aw_wf (.inl ⟨aw_ok, rfl⟩) 5 130 100 (by omega)
      rw [aw3] at q1
      refine q1.mono ?_
      clear q1
      rintro e w2 ⟨A3, c3, A4, c4, rfl, o1, o2, hb⟩
      simp only [List.length_cons, List.length_nil, Nat.reduceAdd, Nat.zero_add] at o1 ⊢
      have sc := Sl.of_own o1
      have z2 := hb.size
      have s0 := s0.below hb (by omega)
      have sa := sa.below hb (Nat.le_refl _)
      have bb := bb.trans (hb.mono (by omega))
      clear hb o1 o2
      go_wp2_with fail
      have s0a := s0.alloc (by omega) (.cells #[.int .i64 2, .int .i64 3] 41)
      have saa := sa.alloc (by omega) (.cells #[.int .i64 2, .int .i64 3] 41)
      have sca := sc.alloc (by omega) (.cells #[.int .i64 2, .int .i64 3] 41)
      have bba := bb.alloc (by omega) (.cells #[.int .i64 2, .int .i64 3] 41)
      have q1 := acked_any s0a (by simp; omega) (by omega) aw_wf (.inl ⟨aw_ok, rfl⟩) (Sl.new w2 41 #[.int .i64 2, .int .i64 3] 2 1 1 (rCells [(2, 3)]) rfl (by omega) rfl rfl) (by simp) (by omega) aw23
      rw [aw4, aw5] at q1
      refine q1.mono ?_
      clear q1
      rintro e w3 ⟨A5, c5, A6, c6, rfl, o1, o2, hb⟩
      simp only [List.length_cons, List.length_nil, Nat.reduceAdd, Nat.zero_add] at ⊢
      have z3 := hb.size
      simp only [World.size_alloc] at z3
      have s0 := s0a.below hb (by simp; omega)
      have sa := saa.below hb (by simp; omega)
      have sc := sca.below hb (by simp)
      have bb := bba.trans (hb.mono (by simp; omega))
      clear hb o1 o2 s0a saa sca bba
      go_wp2_with fail
      have q1 := when_any (x := 5) (y := 100) s0 (by omega) (by omega) aw_wf (.inl ⟨aw_ok, rfl⟩)
      rw [aw6] at q1
      refine q1.mono ?_
      clear q1
      rintro e w4 ⟨rfl, hb⟩
      have z4 := hb.size
      have s0 := s0.below hb (by omega)
      have sa := sa.below hb (by omega)
      have sc := sc.below hb (by omega)
      have bb := bb.trans (hb.mono (by omega))
      clear hb
      go_wp2_with fail
      have q1 := last_any s0 (by omega) (by omega) aw_wf (.inl ⟨aw_ok, rfl⟩)
      rw [aw7] at q1
      refine q1.mono ?_
      clear q1
      rintro e w5 ⟨rfl, hb⟩
      have z5 := hb.size
      have s0 := s0.below hb (by omega)
      have sa := sa.below hb (by omega)
      have sc := sc.below hb (by omega)
      have bb := bb.trans (hb.mono (by omega))
      clear hb
      obtain ⟨ga, oa, rfl, ha, hca⟩ := slp_cell sa (by omega)
      obtain ⟨gc, oc, rfl, hc', hcc⟩ := slp_cell sc (by omega)
      have ka : w5.cell? ⟨ga, oa + 1 * 5, none⟩ = some (.int .i64 2) := (hca 1 (by simp)).1
      have kc : w5.cell? ⟨gc, oc + 2 * 5, none⟩ = some (.int .i64 3) := (hcc 2 (by simp)).1
      clear hca hcc sa sc
      go_wp2_with fail
      clear ka kc
      have q1 := flight_any s0 (by omega) (by omega) aw_wf (.inl ⟨aw_ok, rfl⟩)
      rw [aw8] at q1
      refine q1.mono ?_
      clear q1
      rintro e w6 ⟨rfl, hb⟩
      have z6 := hb.size
      have s0 := s0.below hb (by omega)
      have bb := bb.trans (hb.mono (by omega))
      clear hb
      go_wp2_with fail
      refine (check_any s0 (by omega) (by omega) aw_wf true (by simp only [true_iff]; exact aw_ok)).mono ?_
      rintro e w7 ⟨rfl, hb⟩
      have z7 := hb.size
      have bb := bb.trans (hb.mono (by omega))
      clear hb
      go_wp2_with fail
      have bba := bb.alloc (by omega) (.cells #[.int .i64 (-1), .int .i64 0, .int .i64 0, .bool false, .bool false] 27)
      refine (check_any (Sl.new w7 27 #[.int .i64 (-1), .int .i64 0, .int .i64 0, .bool false, .bool false] 5 1 1 (pCells [⟨-1, 0, 0, false, false⟩]) rfl (by omega) rfl rfl) (by simp) (by omega) (by intro p hp; simp at hp; subst hp; simp) false (by constructor; intro h; cases h; intro h; exact absurd h aw9)).mono ?_
      rintro e w8 ⟨rfl, hb⟩
      have bb := bba.trans (hb.mono (by simp; omega))
      clear hb bba
      go_wp2
      go_ret
      exact ⟨rfl, bb⟩
end Go.Proofs.Ytgebebdapfnmpaa
