/- Texts of this seat, one behind the other. -/
import Derived.Test.YtfeeincglijmjaaGC
namespace Go.Proofs.Ytfeeincglijmjaa
open Go.RowKit
set_option linter.unusedVariables false
set_option linter.unusedSimpArgs false
attribute [local go_sem ↓] Go.wp_at_zero Go.wp_at_succ

set_option maxHeartbeats 8000000 in
set_option maxRecDepth 100000 in
theorem rcheck_sides {s : Scr} {C M : Option Addr} {cc cm : Nat} {w : World} (hs : gSides s = false) :
    Calls Try.prog 59 #[.agg (s.v C cc M cm)] w fun e w' => e = .returned (.int .i64 170) ∧ Below w.heap.size w w' := by
  obtain ⟨W, H, X, Y, At, Tp, Bt, wr, au, hi, al, s0, s1, s2, cs, ms⟩ := s
  unfold Scr.v
  simp only [gSides, Bool.and_eq_false_iff] at hs
  simp only
  have bb := (Below.refl w.heap.size w).alloc (Nat.le_refl _) (.cells #[.int .i64 W, .int .i64 H, .slice C cs.length cc, .int .i64 X, .int .i64 Y, .int .i64 At, .int .i64 Tp, .int .i64 Bt, .bool wr, .bool au, .bool hi, .bool al, .int .i64 s0, .int .i64 s1, .int .i64 s2, .slice M ms.length cm] 35)
  have HW := Lib.hid (fun w' => side_any W w')
  have HH := Lib.hid (fun w' => side_any H w')
  cases h1 : inB W 1 64
  · rw [h1] at HW
    clear h1 hs HH
    go_enter Try.func59, Try.ntmps59
    go_wp2_with fail
    refine (HW.out _).mono ?_
    rintro e w1 ⟨rfl, rfl⟩
    go_wp2
    go_ret
    exact ⟨rfl, bb⟩
  · cases h2 : inB H 1 64
    · rw [h1] at HW
      rw [h2] at HH
      clear h1 h2 hs
      go_enter Try.func59, Try.ntmps59
      go_wp2_with fail
      refine (HW.out _).mono ?_
      rintro e w1 ⟨rfl, rfl⟩
      go_wp2_with fail
      refine (HH.out _).mono ?_
      rintro e w1 ⟨rfl, rfl⟩
      go_wp2
      go_ret
      exact ⟨rfl, bb⟩
    · rw [h1, h2] at hs
      rcases hs with h | h <;> cases h

set_option maxHeartbeats 16000000 in
set_option maxRecDepth 100000 in
theorem rcheck_rest {lo up : Nat} {s : Scr} {C M : Option Addr} {cc cm : Nat} {w : World} (hat : ScrAt w lo up s C cc M cm) (hup : up ≤ w.heap.size) (hl : s.Len) (hs : gSides s = true) (B : Bool) (hB : (gPlaces s && gCur s && gRows s && gSaved s) = B) :
    Calls Try.prog 59 #[.agg (s.v C cc M cm)] w fun e w' => e = .returned (.int .i64 (if B then 0 else 170)) ∧ Below w.heap.size w w' := by
  have hsd := gsides hs
  have har := area hsd
  obtain ⟨W, H, X, Y, At, Tp, Bt, wr, au, hi, al, s0, s1, s2, cs, ms⟩ := s
  unfold Scr.v
  simp only [gSides, Bool.and_eq_true] at hs
  obtain ⟨hs1, hs2⟩ := hs
  obtain ⟨hc, hm⟩ := hat
  obtain ⟨l1, l2⟩ := hl
  simp only [gPlaces, gCur, gRows, gSaved] at hB
  simp only at *
  have bb := (Below.refl w.heap.size w).alloc (Nat.le_refl _) (.cells #[.int .i64 W, .int .i64 H, .slice C cs.length cc, .int .i64 X, .int .i64 Y, .int .i64 At, .int .i64 Tp, .int .i64 Bt, .bool wr, .bool au, .bool hi, .bool al, .int .i64 s0, .int .i64 s1, .int .i64 s2, .slice M ms.length cm] 35)
  have blk := Blk.new w 35 #[.int .i64 W, .int .i64 H, .slice C cs.length cc, .int .i64 X, .int .i64 Y, .int .i64 At, .int .i64 Tp, .int .i64 Bt, .bool wr, .bool au, .bool hi, .bool al, .int .i64 s0, .int .i64 s1, .int .i64 s2, .slice M ms.length cm] rfl
  have HW := Lib.hid (fun w' => side_any W w')
  have HH := Lib.hid (fun w' => side_any H w')
  rw [hs1] at HW
  rw [hs2] at HH
  obtain ⟨N, hN⟩ : ∃ N, N = W * H := ⟨_, rfl⟩
  rw [← hN] at har hB
  have HC := Lib.hid (fun W' (b : Below w.heap.size w W') => cells_any (m := N) (hc.below b hup) (Nat.le_trans hup b.size) l1)
  have HM := Lib.hid (fun W' (b : Below w.heap.size w W') => cells_any (m := if al then N else 0) (hm.below b hup) (Nat.le_trans hup b.size) l2)
  have hw : IntKind.i64.wrap (W * H) = N := by rw [hN]; rw [IntKind.wrap_i64]; omega
  cases al
  · simp only [Bool.false_eq_true, if_false, if_true] at HM hB
    obtain ⟨pa, hpa⟩ : ∃ p, p = mayB cs N := ⟨_, rfl⟩
    rw [← hpa] at HC hB
    obtain ⟨pb, hpb⟩ : ∃ p, mayB ms 0 = p := ⟨_, rfl⟩
    rw [hpb] at HM hB
    have HB := Lib.hid hB
    clear hs1 hs2 hc hm hN hB hpa hpb
    go_enter Try.func59, Try.ntmps59
    go_wp2_with fail
    refine (HW.out _).mono ?_
    rintro e w1 ⟨rfl, rfl⟩
    go_wp2_with fail
    refine (HH.out _).mono ?_
    rintro e w1 ⟨rfl, rfl⟩
    go_wp2_with fail
    refine (HC.out _ bb).mono ?_
    rintro e w1 ⟨rfl, b1⟩
    have blk1 := blk.later b1
    have b2 := bb.trans (b1.mono bb.size)
    clear b1 bb blk
    have ⟨kc, ke⟩ := blk1.rules
    go_wp2_with fail
    refine (HM.out _ b2).mono ?_
    rintro e w2 ⟨rfl, b3⟩
    have blk2 := blk1.later b3
    have b4 := b2.trans (b3.mono b2.size)
    clear b3 b2 blk1 kc ke hw har
    have ⟨kc, ke⟩ := blk2.rules
    go_upto_region 8 with fail
    go_cut [6] (fun s6 wx => ∃ q : Bool, s6 = .bool q ∧ Hid ((inB X 0 (W - 1) && inB Y 0 (H - 1) && inB At 0 2047) = q) ∧ w2 = wx)
    case first =>
      as_aux_lemma =>
        clear HB HC HM
        by_cases x0 : 0 ≤ X
        rotate_left
        · go_wp2_with fail
          go_meet
          exact ⟨_, rfl, Lib.hid (by simp only [inB, Bool.and_eq_true, Bool.and_eq_false_iff, decide_eq_true_iff, decide_eq_false_iff_not]; omega), rfl⟩
        by_cases x1 : X < W
        rotate_left
        · go_wp2_with fail
          go_meet
          exact ⟨_, rfl, Lib.hid (by simp only [inB, Bool.and_eq_true, Bool.and_eq_false_iff, decide_eq_true_iff, decide_eq_false_iff_not]; omega), rfl⟩
        by_cases x2 : 0 ≤ Y
        rotate_left
        · go_wp2_with fail
          go_meet
          exact ⟨_, rfl, Lib.hid (by simp only [inB, Bool.and_eq_true, Bool.and_eq_false_iff, decide_eq_true_iff, decide_eq_false_iff_not]; omega), rfl⟩
        by_cases x3 : Y < H
        rotate_left
        · go_wp2_with fail
          go_meet
          exact ⟨_, rfl, Lib.hid (by simp only [inB, Bool.and_eq_true, Bool.and_eq_false_iff, decide_eq_true_iff, decide_eq_false_iff_not]; omega), rfl⟩
        by_cases x4 : 0 ≤ At
        rotate_left
        · go_wp2_with fail
          go_meet
          exact ⟨_, rfl, Lib.hid (by simp only [inB, Bool.and_eq_true, Bool.and_eq_false_iff, decide_eq_true_iff, decide_eq_false_iff_not]; omega), rfl⟩
        by_cases x5 : At ≤ 2047
        rotate_left
        · go_wp2_with fail
          go_meet
          exact ⟨_, rfl, Lib.hid (by simp only [inB, Bool.and_eq_true, Bool.and_eq_false_iff, decide_eq_true_iff, decide_eq_false_iff_not]; omega), rfl⟩
        go_wp2_with fail
        go_meet
        exact ⟨_, rfl, Lib.hid (by simp only [inB, Bool.and_eq_true, Bool.and_eq_false_iff, decide_eq_true_iff, decide_eq_false_iff_not]; omega), rfl⟩
    case rest =>
      obtain ⟨qc, rfl, hqc, rfl⟩ := hcut
      go_upto_region 9 with fail
      go_cut [7] (fun s7 wx => ∃ q : Bool, s7 = .bool q ∧ Hid ((inB Tp 0 Bt && decide (Bt < H)) = q) ∧ w2 = wx)
      case first =>
        as_aux_lemma =>
          clear HB HC HM hqc
          by_cases x0 : 0 ≤ Tp
          rotate_left
          · go_wp2_with fail
            go_meet
            exact ⟨_, rfl, Lib.hid (by simp only [inB, Bool.and_eq_true, Bool.and_eq_false_iff, decide_eq_true_iff, decide_eq_false_iff_not]; omega), rfl⟩
          by_cases x1 : Tp ≤ Bt
          rotate_left
          · go_wp2_with fail
            go_meet
            exact ⟨_, rfl, Lib.hid (by simp only [inB, Bool.and_eq_true, Bool.and_eq_false_iff, decide_eq_true_iff, decide_eq_false_iff_not]; omega), rfl⟩
          by_cases x2 : Bt < H
          rotate_left
          · go_wp2_with fail
            go_meet
            exact ⟨_, rfl, Lib.hid (by simp only [inB, Bool.and_eq_true, Bool.and_eq_false_iff, decide_eq_true_iff, decide_eq_false_iff_not]; omega), rfl⟩
          go_wp2_with fail
          go_meet
          exact ⟨_, rfl, Lib.hid (by simp only [inB, Bool.and_eq_true, Bool.and_eq_false_iff, decide_eq_true_iff, decide_eq_false_iff_not]; omega), rfl⟩
      case rest =>
        obtain ⟨qr, rfl, hqr, rfl⟩ := hcut
        go_upto_region 10 with fail
        go_cut [8] (fun s8 wx => ∃ q : Bool, s8 = .bool q ∧ Hid ((inB s0 0 63 && inB s1 0 63 && inB s2 0 2047) = q) ∧ w2 = wx)
        case first =>
          as_aux_lemma =>
            clear HB HC HM hqc hqr
            by_cases x0 : 0 ≤ s0
            rotate_left
            · go_wp2_with fail
              go_meet
              exact ⟨_, rfl, Lib.hid (by simp only [inB, Bool.and_eq_true, Bool.and_eq_false_iff, decide_eq_true_iff, decide_eq_false_iff_not]; omega), rfl⟩
            by_cases x1 : s0 < 64
            rotate_left
            · go_wp2_with fail
              go_meet
              exact ⟨_, rfl, Lib.hid (by simp only [inB, Bool.and_eq_true, Bool.and_eq_false_iff, decide_eq_true_iff, decide_eq_false_iff_not]; omega), rfl⟩
            by_cases x2 : 0 ≤ s1
            rotate_left
            · go_wp2_with fail
              go_meet
              exact ⟨_, rfl, Lib.hid (by simp only [inB, Bool.and_eq_true, Bool.and_eq_false_iff, decide_eq_true_iff, decide_eq_false_iff_not]; omega), rfl⟩
            by_cases x3 : s1 < 64
            rotate_left
            · go_wp2_with fail
              go_meet
              exact ⟨_, rfl, Lib.hid (by simp only [inB, Bool.and_eq_true, Bool.and_eq_false_iff, decide_eq_true_iff, decide_eq_false_iff_not]; omega), rfl⟩
            by_cases x4 : 0 ≤ s2
            rotate_left
            · go_wp2_with fail
              go_meet
              exact ⟨_, rfl, Lib.hid (by simp only [inB, Bool.and_eq_true, Bool.and_eq_false_iff, decide_eq_true_iff, decide_eq_false_iff_not]; omega), rfl⟩
            by_cases x5 : s2 ≤ 2047
            rotate_left
            · go_wp2_with fail
              go_meet
              exact ⟨_, rfl, Lib.hid (by simp only [inB, Bool.and_eq_true, Bool.and_eq_false_iff, decide_eq_true_iff, decide_eq_false_iff_not]; omega), rfl⟩
            go_wp2_with fail
            go_meet
            exact ⟨_, rfl, Lib.hid (by simp only [inB, Bool.and_eq_true, Bool.and_eq_false_iff, decide_eq_true_iff, decide_eq_false_iff_not]; omega), rfl⟩
        case rest =>
          obtain ⟨qs, rfl, hqs, rfl⟩ := hcut
          have hB := HB.out
          rw [hqc.out, hqr.out, hqs.out] at hB
          clear HB hqc hqr hqs
          cases pa
          · obtain rfl : false = B := hB
            go_wp2_with fail
            go_ret
            exact ⟨rfl, b4⟩
          cases pb
          · obtain rfl : false = B := hB
            go_wp2_with fail
            go_ret
            exact ⟨rfl, b4⟩
          cases qc
          · obtain rfl : false = B := hB
            go_wp2_with fail
            go_ret
            exact ⟨rfl, b4⟩
          cases qr
          · obtain rfl : false = B := hB
            go_wp2_with fail
            go_ret
            exact ⟨rfl, b4⟩
          cases qs
          all_goals
            subst hB
            go_wp2_with fail
            go_ret
            exact ⟨rfl, b4⟩
  · simp only [Bool.false_eq_true, if_false, if_true] at HM hB
    obtain ⟨pa, hpa⟩ : ∃ p, p = mayB cs N := ⟨_, rfl⟩
    rw [← hpa] at HC hB
    obtain ⟨pb, hpb⟩ : ∃ p, mayB ms N = p := ⟨_, rfl⟩
    rw [hpb] at HM hB
    have HB := Lib.hid hB
    clear hs1 hs2 hc hm hN hB hpa hpb
    go_enter Try.func59, Try.ntmps59
    go_wp2_with fail
    refine (HW.out _).mono ?_
    rintro e w1 ⟨rfl, rfl⟩
    go_wp2_with fail
    refine (HH.out _).mono ?_
    rintro e w1 ⟨rfl, rfl⟩
    go_wp2_with fail
    refine (HC.out _ bb).mono ?_
    rintro e w1 ⟨rfl, b1⟩
    have blk1 := blk.later b1
    have b2 := bb.trans (b1.mono bb.size)
    clear b1 bb blk
    have ⟨kc, ke⟩ := blk1.rules
    go_wp2_with fail
    refine (HM.out _ b2).mono ?_
    rintro e w2 ⟨rfl, b3⟩
    have blk2 := blk1.later b3
    have b4 := b2.trans (b3.mono b2.size)
    clear b3 b2 blk1 kc ke hw har
    have ⟨kc, ke⟩ := blk2.rules
    go_upto_region 8 with fail
    go_cut [6] (fun s6 wx => ∃ q : Bool, s6 = .bool q ∧ Hid ((inB X 0 (W - 1) && inB Y 0 (H - 1) && inB At 0 2047) = q) ∧ w2 = wx)
    case first =>
      as_aux_lemma =>
        clear HB HC HM
        by_cases x0 : 0 ≤ X
        rotate_left
        · go_wp2_with fail
          go_meet
          exact ⟨_, rfl, Lib.hid (by simp only [inB, Bool.and_eq_true, Bool.and_eq_false_iff, decide_eq_true_iff, decide_eq_false_iff_not]; omega), rfl⟩
        by_cases x1 : X < W
        rotate_left
        · go_wp2_with fail
          go_meet
          exact ⟨_, rfl, Lib.hid (by simp only [inB, Bool.and_eq_true, Bool.and_eq_false_iff, decide_eq_true_iff, decide_eq_false_iff_not]; omega), rfl⟩
        by_cases x2 : 0 ≤ Y
        rotate_left
        · go_wp2_with fail
          go_meet
          exact ⟨_, rfl, Lib.hid (by simp only [inB, Bool.and_eq_true, Bool.and_eq_false_iff, decide_eq_true_iff, decide_eq_false_iff_not]; omega), rfl⟩
        by_cases x3 : Y < H
        rotate_left
        · go_wp2_with fail
          go_meet
          exact ⟨_, rfl, Lib.hid (by simp only [inB, Bool.and_eq_true, Bool.and_eq_false_iff, decide_eq_true_iff, decide_eq_false_iff_not]; omega), rfl⟩
        by_cases x4 : 0 ≤ At
        rotate_left
        · go_wp2_with fail
          go_meet
          exact ⟨_, rfl, Lib.hid (by simp only [inB, Bool.and_eq_true, Bool.and_eq_false_iff, decide_eq_true_iff, decide_eq_false_iff_not]; omega), rfl⟩
        by_cases x5 : At ≤ 2047
        rotate_left
        · go_wp2_with fail
          go_meet
          exact ⟨_, rfl, Lib.hid (by simp only [inB, Bool.and_eq_true, Bool.and_eq_false_iff, decide_eq_true_iff, decide_eq_false_iff_not]; omega), rfl⟩
        go_wp2_with fail
        go_meet
        exact ⟨_, rfl, Lib.hid (by simp only [inB, Bool.and_eq_true, Bool.and_eq_false_iff, decide_eq_true_iff, decide_eq_false_iff_not]; omega), rfl⟩
    case rest =>
      obtain ⟨qc, rfl, hqc, rfl⟩ := hcut
      go_upto_region 9 with fail
      go_cut [7] (fun s7 wx => ∃ q : Bool, s7 = .bool q ∧ Hid ((inB Tp 0 Bt && decide (Bt < H)) = q) ∧ w2 = wx)
      case first =>
        as_aux_lemma =>
          clear HB HC HM hqc
          by_cases x0 : 0 ≤ Tp
          rotate_left
          · go_wp2_with fail
            go_meet
            exact ⟨_, rfl, Lib.hid (by simp only [inB, Bool.and_eq_true, Bool.and_eq_false_iff, decide_eq_true_iff, decide_eq_false_iff_not]; omega), rfl⟩
          by_cases x1 : Tp ≤ Bt
          rotate_left
          · go_wp2_with fail
            go_meet
            exact ⟨_, rfl, Lib.hid (by simp only [inB, Bool.and_eq_true, Bool.and_eq_false_iff, decide_eq_true_iff, decide_eq_false_iff_not]; omega), rfl⟩
          by_cases x2 : Bt < H
          rotate_left
          · go_wp2_with fail
            go_meet
            exact ⟨_, rfl, Lib.hid (by simp only [inB, Bool.and_eq_true, Bool.and_eq_false_iff, decide_eq_true_iff, decide_eq_false_iff_not]; omega), rfl⟩
          go_wp2_with fail
          go_meet
          exact ⟨_, rfl, Lib.hid (by simp only [inB, Bool.and_eq_true, Bool.and_eq_false_iff, decide_eq_true_iff, decide_eq_false_iff_not]; omega), rfl⟩
      case rest =>
        obtain ⟨qr, rfl, hqr, rfl⟩ := hcut
        go_upto_region 10 with fail
        go_cut [8] (fun s8 wx => ∃ q : Bool, s8 = .bool q ∧ Hid ((inB s0 0 63 && inB s1 0 63 && inB s2 0 2047) = q) ∧ w2 = wx)
        case first =>
          as_aux_lemma =>
            clear HB HC HM hqc hqr
            by_cases x0 : 0 ≤ s0
            rotate_left
            · go_wp2_with fail
              go_meet
              exact ⟨_, rfl, Lib.hid (by simp only [inB, Bool.and_eq_true, Bool.and_eq_false_iff, decide_eq_true_iff, decide_eq_false_iff_not]; omega), rfl⟩
            by_cases x1 : s0 < 64
            rotate_left
            · go_wp2_with fail
              go_meet
              exact ⟨_, rfl, Lib.hid (by simp only [inB, Bool.and_eq_true, Bool.and_eq_false_iff, decide_eq_true_iff, decide_eq_false_iff_not]; omega), rfl⟩
            by_cases x2 : 0 ≤ s1
            rotate_left
            · go_wp2_with fail
              go_meet
              exact ⟨_, rfl, Lib.hid (by simp only [inB, Bool.and_eq_true, Bool.and_eq_false_iff, decide_eq_true_iff, decide_eq_false_iff_not]; omega), rfl⟩
            by_cases x3 : s1 < 64
            rotate_left
            · go_wp2_with fail
              go_meet
              exact ⟨_, rfl, Lib.hid (by simp only [inB, Bool.and_eq_true, Bool.and_eq_false_iff, decide_eq_true_iff, decide_eq_false_iff_not]; omega), rfl⟩
            by_cases x4 : 0 ≤ s2
            rotate_left
            · go_wp2_with fail
              go_meet
              exact ⟨_, rfl, Lib.hid (by simp only [inB, Bool.and_eq_true, Bool.and_eq_false_iff, decide_eq_true_iff, decide_eq_false_iff_not]; omega), rfl⟩
            by_cases x5 : s2 ≤ 2047
            rotate_left
            · go_wp2_with fail
              go_meet
              exact ⟨_, rfl, Lib.hid (by simp only [inB, Bool.and_eq_true, Bool.and_eq_false_iff, decide_eq_true_iff, decide_eq_false_iff_not]; omega), rfl⟩
            go_wp2_with fail
            go_meet
            exact ⟨_, rfl, Lib.hid (by simp only [inB, Bool.and_eq_true, Bool.and_eq_false_iff, decide_eq_true_iff, decide_eq_false_iff_not]; omega), rfl⟩
        case rest =>
          obtain ⟨qs, rfl, hqs, rfl⟩ := hcut
          have hB := HB.out
          rw [hqc.out, hqr.out, hqs.out] at hB
          clear HB hqc hqr hqs
          cases pa
          · obtain rfl : false = B := hB
            go_wp2_with fail
            go_ret
            exact ⟨rfl, b4⟩
          cases pb
          · obtain rfl : false = B := hB
            go_wp2_with fail
            go_ret
            exact ⟨rfl, b4⟩
          cases qc
          · obtain rfl : false = B := hB
            go_wp2_with fail
            go_ret
            exact ⟨rfl, b4⟩
          cases qr
          · obtain rfl : false = B := hB
            go_wp2_with fail
            go_ret
            exact ⟨rfl, b4⟩
          cases qs
          all_goals
            subst hB
            go_wp2_with fail
            go_ret
            exact ⟨rfl, b4⟩

theorem rcheck_any {lo up : Nat} {s : Scr} {C M : Option Addr} {cc cm : Nat} {w : World} (hat : ScrAt w lo up s C cc M cm) (hup : up ≤ w.heap.size) (hl : s.Len) :
    Calls Try.prog 59 #[.agg (s.v C cc M cm)] w fun e w' => e = .returned (.int .i64 (if gOk s then 0 else 170)) ∧ Below w.heap.size w w' := by
  unfold gOk
  cases h1 : gSides s
  · simpa only [Bool.false_and, Bool.false_eq_true, if_false] using rcheck_sides h1
  · have := rcheck_rest hat hup hl h1 _ rfl
    simpa only [Bool.true_and] using this
theorem rcheck_ok {lo up : Nat} {s : Scr} {C M : Option Addr} {cc cm : Nat} {w : World} (hat : ScrAt w lo up s C cc M cm) (hup : up ≤ w.heap.size) (hl : s.Len) (h : gOk s = true) :
    Calls Try.prog 59 #[.agg (s.v C cc M cm)] w fun e w' => e = .returned (.int .i64 0) ∧ Below w.heap.size w w' := by
  have := rcheck_any hat hup hl
  rwa [h] at this
theorem rcheck_bad {lo up : Nat} {s : Scr} {C M : Option Addr} {cc cm : Nat} {w : World} (hat : ScrAt w lo up s C cc M cm) (hup : up ≤ w.heap.size) (hl : s.Len) (h : gOk s = false) :
    Calls Try.prog 59 #[.agg (s.v C cc M cm)] w fun e w' => e = .returned (.int .i64 170) ∧ Below w.heap.size w w' := by
  have := rcheck_any hat hup hl
  rwa [h] at this
end Go.Proofs.Ytfeeincglijmjaa
