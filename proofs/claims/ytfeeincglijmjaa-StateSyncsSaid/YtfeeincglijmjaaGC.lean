/- Texts of this seat, one behind the other. -/
import Derived.Test.YtfeeincglijmjaaZB2
namespace Go.Proofs.Ytfeeincglijmjaa
open Go.RowKit
set_option linter.unusedVariables false
set_option linter.unusedSimpArgs false
attribute [local go_sem ↓] Go.wp_at_zero Go.wp_at_succ

set_option maxHeartbeats 8000000 in
set_option maxRecDepth 100000 in
theorem check_sides {s : Scr} {C M : Option Addr} {cc cm : Nat} {w : World} (hs : gSides s = false) :
    Calls Try.prog 14 #[.agg (s.v C cc M cm)] w fun e w' => e = .returned (.int .i64 170) ∧ Below w.heap.size w w' := by
  obtain ⟨W, H, X, Y, At, Tp, Bt, wr, au, hi, al, s0, s1, s2, cs, ms⟩ := s
  unfold Scr.v
  simp only [gSides, Bool.and_eq_false_iff] at hs
  simp only
  have bb := (Below.refl w.heap.size w).alloc (Nat.le_refl _) (.cells #[.int .i64 W, .int .i64 H, .slice C cs.length cc, .int .i64 X, .int .i64 Y, .int .i64 At, .int .i64 Tp, .int .i64 Bt, .bool wr, .bool au, .bool hi, .bool al, .int .i64 s0, .int .i64 s1, .int .i64 s2, .slice M ms.length cm] 35)
  have HW := Lib.hid (fun w' => within_any W 1 64 w')
  have HH := Lib.hid (fun w' => within_any H 1 64 w')
  cases h1 : inB W 1 64
  · rw [h1] at HW
    clear h1 hs HH
    cases al
    all_goals
      go_enter Try.func14, Try.ntmps14
      go_wp2_with fail
      refine (HW.out _).mono ?_
      rintro e w1 ⟨rfl, rfl⟩
      go_wp2
      go_ret
      exact ⟨rfl, bb⟩
  · cases h2 : inB H 1 64
    · rw [h1] at HW
      rw [h2] at HH
      clear h1 h2 hs
      cases al
      all_goals
        go_enter Try.func14, Try.ntmps14
        go_wp2_with fail
        refine (HW.out _).mono ?_
        rintro e w1 ⟨rfl, rfl⟩
        go_wp2_with fail
        refine (HH.out _).mono ?_
        rintro e w1 ⟨rfl, rfl⟩
        go_wp2
        go_ret
        exact ⟨rfl, bb⟩
    · rw [h1, h2] at hs
      rcases hs with h | h <;> cases h

set_option maxHeartbeats 8000000 in
set_option maxRecDepth 100000 in
theorem check_places {lo up : Nat} {s : Scr} {C M : Option Addr} {cc cm : Nat} {w : World} (hat : ScrAt w lo up s C cc M cm) (hup : up ≤ w.heap.size) (hl : s.Len) (hs : gSides s = true) (hp : gPlaces s = false) :
    Calls Try.prog 14 #[.agg (s.v C cc M cm)] w fun e w' => e = .returned (.int .i64 170) ∧ Below w.heap.size w w' := by
  have hsd := gsides hs
  have har := area hsd
  obtain ⟨W, H, X, Y, At, Tp, Bt, wr, au, hi, al, s0, s1, s2, cs, ms⟩ := s
  unfold Scr.v
  simp only [gSides, Bool.and_eq_true] at hs
  obtain ⟨hs1, hs2⟩ := hs
  simp only [gPlaces, Bool.and_eq_false_iff] at hp
  obtain ⟨hc, hm⟩ := hat
  obtain ⟨l1, l2⟩ := hl
  simp only at *
  have bb := (Below.refl w.heap.size w).alloc (Nat.le_refl _) (.cells #[.int .i64 W, .int .i64 H, .slice C cs.length cc, .int .i64 X, .int .i64 Y, .int .i64 At, .int .i64 Tp, .int .i64 Bt, .bool wr, .bool au, .bool hi, .bool al, .int .i64 s0, .int .i64 s1, .int .i64 s2, .slice M ms.length cm] 35)
  have blk := Blk.new w 35 #[.int .i64 W, .int .i64 H, .slice C cs.length cc, .int .i64 X, .int .i64 Y, .int .i64 At, .int .i64 Tp, .int .i64 Bt, .bool wr, .bool au, .bool hi, .bool al, .int .i64 s0, .int .i64 s1, .int .i64 s2, .slice M ms.length cm] rfl
  have HW := Lib.hid (fun w' => within_any W 1 64 w')
  have HH := Lib.hid (fun w' => within_any H 1 64 w')
  rw [hs1] at HW
  rw [hs2] at HH
  obtain ⟨N, hN⟩ : ∃ N, N = W * H := ⟨_, rfl⟩
  have HC := Lib.hid (fun W' (b : Below w.heap.size w W') => may_any (m := N) (hc.below b hup) (Nat.le_trans hup b.size) l1)
  have HM := Lib.hid (fun W' (b : Below w.heap.size w W') => may_any (m := if al then N else 0) (hm.below b hup) (Nat.le_trans hup b.size) l2)
  have hw : IntKind.i64.wrap (W * H) = N := by rw [hN]; rw [IntKind.wrap_i64]; omega
  rw [← hN] at har hp
  cases h1 : mayB cs N
  · rw [h1] at HC
    clear h1 hp HM hs1 hs2 hc hm blk hN
    cases al
    all_goals
      go_enter Try.func14, Try.ntmps14
      go_wp2_with fail
      refine (HW.out _).mono ?_
      rintro e w1 ⟨rfl, rfl⟩
      go_wp2_with fail
      refine (HH.out _).mono ?_
      rintro e w1 ⟨rfl, rfl⟩
      go_wp2_with fail
      refine (HC.out _ bb).mono ?_
      rintro e w1 ⟨rfl, b1⟩
      go_wp2
      go_ret
      exact ⟨rfl, bb.trans (b1.mono bb.size)⟩
  · cases h2 : mayB ms (if al then N else 0)
    · cases al
      all_goals
        simp only [Bool.false_eq_true, if_false, if_true] at h2 HM
        rw [h1] at HC
        rw [h2] at HM
        clear h1 h2 hp hs1 hs2 hc hm hN
        go_enter Try.func14, Try.ntmps14
        go_wp2_with fail
        refine (HW.out _).mono ?_
        rintro e w1 ⟨rfl, rfl⟩
        go_wp2_with fail
        refine (HH.out _).mono ?_
        rintro e w1 ⟨rfl, rfl⟩
        go_wp2_with fail
        refine (HC.out _ bb).mono ?_
        rintro e w1 ⟨rfl, b1⟩
        have ⟨kc, ke⟩ := (blk.later b1).rules
        have b2 := bb.trans (b1.mono bb.size)
        clear b1
        go_wp2_with fail
        refine (HM.out _ b2).mono ?_
        rintro e w2 ⟨rfl, b3⟩
        go_wp2
        go_ret
        exact ⟨rfl, b2.trans (b3.mono b2.size)⟩
    · rw [h1, h2] at hp
      rcases hp with h | h <;> cases h

set_option maxHeartbeats 8000000 in
set_option maxRecDepth 100000 in
theorem check_rest {lo up : Nat} {s : Scr} {C M : Option Addr} {cc cm : Nat} {w : World} (hat : ScrAt w lo up s C cc M cm) (hup : up ≤ w.heap.size) (hl : s.Len) (hs : gSides s = true) (hp : gPlaces s = true) (B : Bool) (hB : (gCur s && gRows s && gSaved s) = B) :
    Calls Try.prog 14 #[.agg (s.v C cc M cm)] w fun e w' => e = .returned (.int .i64 (if B then 0 else 170)) ∧ Below w.heap.size w w' := by
  have hsd := gsides hs
  have har := area hsd
  obtain ⟨W, H, X, Y, At, Tp, Bt, wr, au, hi, al, s0, s1, s2, cs, ms⟩ := s
  unfold Scr.v
  simp only [gSides, Bool.and_eq_true] at hs
  obtain ⟨hs1, hs2⟩ := hs
  simp only [gPlaces, Bool.and_eq_true] at hp
  obtain ⟨h1, h2⟩ := hp
  obtain ⟨hc, hm⟩ := hat
  obtain ⟨l1, l2⟩ := hl
  simp only [gCur, gRows, gSaved] at hB
  simp only at *
  have bb := (Below.refl w.heap.size w).alloc (Nat.le_refl _) (.cells #[.int .i64 W, .int .i64 H, .slice C cs.length cc, .int .i64 X, .int .i64 Y, .int .i64 At, .int .i64 Tp, .int .i64 Bt, .bool wr, .bool au, .bool hi, .bool al, .int .i64 s0, .int .i64 s1, .int .i64 s2, .slice M ms.length cm] 35)
  have blk := Blk.new w 35 #[.int .i64 W, .int .i64 H, .slice C cs.length cc, .int .i64 X, .int .i64 Y, .int .i64 At, .int .i64 Tp, .int .i64 Bt, .bool wr, .bool au, .bool hi, .bool al, .int .i64 s0, .int .i64 s1, .int .i64 s2, .slice M ms.length cm] rfl
  have HW := Lib.hid (fun w' => within_any W 1 64 w')
  have HH := Lib.hid (fun w' => within_any H 1 64 w')
  rw [hs1] at HW
  rw [hs2] at HH
  obtain ⟨N, hN⟩ : ∃ N, N = W * H := ⟨_, rfl⟩
  rw [← hN] at har h1 h2
  have HC := Lib.hid (fun W' (b : Below w.heap.size w W') => may_any (m := N) (hc.below b hup) (Nat.le_trans hup b.size) l1)
  have HM := Lib.hid (fun W' (b : Below w.heap.size w W') => may_any (m := if al then N else 0) (hm.below b hup) (Nat.le_trans hup b.size) l2)
  have hw : IntKind.i64.wrap (W * H) = N := by rw [hN]; rw [IntKind.wrap_i64]; omega
  have HB := Lib.hid hB
  rw [h1] at HC
  rw [h2] at HM
  cases al
  all_goals
    simp only [Bool.false_eq_true, if_false, if_true] at HM
    clear h1 h2 hs1 hs2 hc hm hN hB
    go_enter Try.func14, Try.ntmps14
    go_wp2_with fail
    refine (HW.out _).mono ?_
    rintro e w1 ⟨rfl, rfl⟩
    go_wp2_with fail
    refine (HH.out _).mono ?_
    rintro e w1 ⟨rfl, rfl⟩
    go_wp2_with fail
    refine (HC.out _ bb).mono ?_
    rintro e w1 ⟨rfl, b1⟩
    have blk1 := blk.later b1
    have b2 := bb.trans (b1.mono bb.size)
    clear b1 bb blk
    have ⟨kc, ke⟩ := blk1.rules
    go_wp2_with fail
    refine (HM.out _ b2).mono ?_
    rintro e w2 ⟨rfl, b3⟩
    have blk2 := blk1.later b3
    have b4 := b2.trans (b3.mono b2.size)
    clear b3 b2 blk1 kc ke
    have ⟨kc, ke⟩ := blk2.rules
    have HX := Lib.hid (fun w' => within_any X 0 (W - 1) w')
    have HY := Lib.hid (fun w' => within_any Y 0 (H - 1) w')
    have HA := Lib.hid (fun w' => within_any At 0 2047 w')
    have HT := Lib.hid (fun w' => within_any Tp 0 Bt w')
    have h0 := Lib.hid (fun w' => within_any s0 0 63 w')
    have h1 := Lib.hid (fun w' => within_any s1 0 63 w')
    have h2 := Lib.hid (fun w' => within_any s2 0 2047 w')
    go_upto_region 7 with fail
    go_cut [5] (fun s5 wx => ∃ q : Bool, s5 = .bool q ∧ Hid ((inB X 0 (W - 1) && inB Y 0 (H - 1) && inB At 0 2047) = q) ∧ w2 = wx)
    case first =>
      clear HB HT h0 h1 h2
      cases e1 : inB X 0 (W - 1)
      · rw [e1] at HX
        have Ee1 := Lib.hid e1
        clear e1
        go_wp2_with fail
        refine (HX.out _).mono ?_
        rintro e w3 ⟨rfl, rfl⟩
        go_wp2_with fail
        go_meet
        exact ⟨_, rfl, Lib.hid (by first | simp only [Ee1.out, Ee2.out, Ee3.out, Bool.and_true, Bool.and_false, Bool.true_and, Bool.false_and] | simp only [Ee1.out, Ee2.out, Bool.and_true, Bool.and_false, Bool.true_and, Bool.false_and] | simp only [Ee1.out, Bool.and_true, Bool.and_false, Bool.true_and, Bool.false_and]), rfl⟩
      · cases e2 : inB Y 0 (H - 1)
        · rw [e1] at HX
          rw [e2] at HY
          have Ee1 := Lib.hid e1
          have Ee2 := Lib.hid e2
          clear e1 e2
          go_wp2_with fail
          refine (HX.out _).mono ?_
          rintro e w3 ⟨rfl, rfl⟩
          go_wp2_with fail
          refine (HY.out _).mono ?_
          rintro e w3 ⟨rfl, rfl⟩
          go_wp2_with fail
          go_meet
          exact ⟨_, rfl, Lib.hid (by first | simp only [Ee1.out, Ee2.out, Ee3.out, Bool.and_true, Bool.and_false, Bool.true_and, Bool.false_and] | simp only [Ee1.out, Ee2.out, Bool.and_true, Bool.and_false, Bool.true_and, Bool.false_and] | simp only [Ee1.out, Bool.and_true, Bool.and_false, Bool.true_and, Bool.false_and]), rfl⟩
        · cases e3 : inB At 0 2047
          all_goals
            rw [e1] at HX
            rw [e2] at HY
            rw [e3] at HA
            have Ee1 := Lib.hid e1
            have Ee2 := Lib.hid e2
            have Ee3 := Lib.hid e3
            clear e1 e2 e3
            go_wp2_with fail
            refine (HX.out _).mono ?_
            rintro e w3 ⟨rfl, rfl⟩
            go_wp2_with fail
            refine (HY.out _).mono ?_
            rintro e w3 ⟨rfl, rfl⟩
            go_wp2_with fail
            refine (HA.out _).mono ?_
            rintro e w3 ⟨rfl, rfl⟩
            go_wp2_with fail
            go_meet
            exact ⟨_, rfl, Lib.hid (by first | simp only [Ee1.out, Ee2.out, Ee3.out, Bool.and_true, Bool.and_false, Bool.true_and, Bool.false_and] | simp only [Ee1.out, Ee2.out, Bool.and_true, Bool.and_false, Bool.true_and, Bool.false_and] | simp only [Ee1.out, Bool.and_true, Bool.and_false, Bool.true_and, Bool.false_and]), rfl⟩
    case rest =>
      obtain ⟨q, rfl, hq, rfl⟩ := hcut
      clear HX HY HA
      go_upto_region 8 with fail
      go_cut [6] (fun s6 wx => ∃ r : Bool, s6 = .bool r ∧ Hid ((inB Tp 0 Bt && decide (Bt < H)) = r) ∧ w2 = wx)
      case first =>
        clear HB h0 h1 h2 hq
        cases e1 : inB Tp 0 Bt
        · rw [e1] at HT
          have Ee1 := Lib.hid e1
          clear e1
          go_wp2_with fail
          refine (HT.out _).mono ?_
          rintro e w3 ⟨rfl, rfl⟩
          go_wp2_with fail
          go_meet
          exact ⟨_, rfl, Lib.hid (by first | simp only [Ee1.out, Ee2.out, Ee3.out, Bool.and_true, Bool.and_false, Bool.true_and, Bool.false_and] | simp only [Ee1.out, Ee2.out, Bool.and_true, Bool.and_false, Bool.true_and, Bool.false_and] | simp only [Ee1.out, Bool.and_true, Bool.and_false, Bool.true_and, Bool.false_and]), rfl⟩
        · rw [e1] at HT
          have Ee1 := Lib.hid e1
          clear e1
          by_cases hb : Bt < H
          · have E : decide (Bt < H) = true := decide_eq_true hb
            have E1 := Lib.hid E
            clear E
            go_wp2_with fail
            refine (HT.out _).mono ?_
            rintro e w3 ⟨rfl, rfl⟩
            go_wp2_with fail
            go_meet
            exact ⟨_, rfl, Lib.hid (by rw [E1.out, Ee1.out]; rfl), rfl⟩
          · have E : decide (Bt < H) = false := decide_eq_false hb
            have E1 := Lib.hid E
            clear E
            go_wp2_with fail
            refine (HT.out _).mono ?_
            rintro e w3 ⟨rfl, rfl⟩
            go_wp2_with fail
            go_meet
            exact ⟨_, rfl, Lib.hid (by rw [E1.out, Ee1.out]; rfl), rfl⟩
      case rest =>
        obtain ⟨r, rfl, hr, rfl⟩ := hcut
        clear HT
        have hB2 := HB.out
        rw [hq.out, hr.out] at hB2
        clear hq hr HB
        cases q
        · obtain rfl : false = B := hB2
          clear h0 h1 h2
          go_wp2_with fail
          go_ret
          exact ⟨rfl, b4⟩
        cases r
        · obtain rfl : false = B := hB2
          clear h0 h1 h2
          go_wp2_with fail
          go_ret
          exact ⟨rfl, b4⟩
        cases e0 : inB s0 0 63
        · rw [e0] at h0 hB2
          obtain rfl : false = B := hB2
          clear h1 h2 e0
          go_wp2_with fail
          refine (h0.out _).mono ?_
          rintro e w3 ⟨rfl, rfl⟩
          go_wp2_with fail
          go_ret
          exact ⟨rfl, b4⟩
        cases e1 : inB s1 0 63
        · rw [e0, e1] at hB2
          rw [e0] at h0
          rw [e1] at h1
          obtain rfl : false = B := hB2
          clear h2 e0 e1
          go_wp2_with fail
          refine (h0.out _).mono ?_
          rintro e w3 ⟨rfl, rfl⟩
          go_wp2_with fail
          refine (h1.out _).mono ?_
          rintro e w3 ⟨rfl, rfl⟩
          go_wp2_with fail
          go_ret
          exact ⟨rfl, b4⟩
        cases e2 : inB s2 0 2047
        all_goals
          rw [e0, e1, e2] at hB2
          rw [e0] at h0
          rw [e1] at h1
          rw [e2] at h2
          subst hB2
          clear e0 e1 e2
          go_wp2_with fail
          refine (h0.out _).mono ?_
          rintro e w3 ⟨rfl, rfl⟩
          go_wp2_with fail
          refine (h1.out _).mono ?_
          rintro e w3 ⟨rfl, rfl⟩
          go_wp2_with fail
          refine (h2.out _).mono ?_
          rintro e w3 ⟨rfl, rfl⟩
          go_wp2_with fail
          go_ret
          exact ⟨rfl, b4⟩

theorem check_any {lo up : Nat} {s : Scr} {C M : Option Addr} {cc cm : Nat} {w : World} (hat : ScrAt w lo up s C cc M cm) (hup : up ≤ w.heap.size) (hl : s.Len) :
    Calls Try.prog 14 #[.agg (s.v C cc M cm)] w fun e w' => e = .returned (.int .i64 (if gOk s then 0 else 170)) ∧ Below w.heap.size w w' := by
  unfold gOk
  cases h1 : gSides s
  · simpa only [Bool.false_and, Bool.false_eq_true, if_false] using check_sides h1
  · cases h2 : gPlaces s
    · simpa only [Bool.and_false, Bool.false_and, Bool.false_eq_true, if_false] using check_places hat hup hl h1 h2
    · have := check_rest hat hup hl h1 h2 _ rfl
      simpa only [Bool.true_and] using this
theorem check_ok {lo up : Nat} {s : Scr} {C M : Option Addr} {cc cm : Nat} {w : World} (hat : ScrAt w lo up s C cc M cm) (hup : up ≤ w.heap.size) (hl : s.Len) (h : gOk s = true) :
    Calls Try.prog 14 #[.agg (s.v C cc M cm)] w fun e w' => e = .returned (.int .i64 0) ∧ Below w.heap.size w w' := by
  have := check_any hat hup hl
  rwa [h] at this
theorem check_bad {lo up : Nat} {s : Scr} {C M : Option Addr} {cc cm : Nat} {w : World} (hat : ScrAt w lo up s C cc M cm) (hup : up ≤ w.heap.size) (hl : s.Len) (h : gOk s = false) :
    Calls Try.prog 14 #[.agg (s.v C cc M cm)] w fun e w' => e = .returned (.int .i64 170) ∧ Below w.heap.size w w' := by
  have := check_any hat hup hl
  rwa [h] at this
end Go.Proofs.Ytfeeincglijmjaa
