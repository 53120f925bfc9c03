/- Texts of this seat, one behind the other. -/
import Derived.Test.YtfeeincglijmjaaEC
import Derived.Test.YtfeeincglijmjaaZB7
import Derived.Test.YtfeeincglijmjaaZB8
import Derived.Test.YtfeeincglijmjaaZB4
import Derived.Test.YtfeeincglijmjaaZB9
import Derived.BigRegion
namespace Go.Proofs.Ytfeeincglijmjaa
/- The walk of diff.Apply: what all its ends share; of a screen that may not be. -/
section
open Go.RowKit
set_option linter.unusedVariables false
set_option linter.unusedSimpArgs false
attribute [local go_sem ↓] Go.wp_at_zero Go.wp_at_succ

/-- What a screen of the callee's own, its places rows of its own, and an error, are handed back as. -/
def RetAp (w : World) (s : Scr) (n : Int) (e : Ending) (w' : World) : Prop :=
  ∃ C cc M cm, e = .returned (.tuple #[.agg (s.v C cc M cm), .int .i64 n]) ∧ w'.ownsRow w.heap.size 64 2 (.slice C s.cs.length cc) s.cs.length (cCells s.cs) ∧ w'.ownsRow w.heap.size 64 2 (.slice M s.ms.length cm) s.ms.length (cCells s.ms) ∧ Below w.heap.size w w'
/-- What Apply has ahead: its screen, the result's place, no screen. -/
def ASt (w : World) (ca : Array Value) (W : World) : Prop := Below w.heap.size w W ∧ Blk W w.heap.size 35 ca ∧ Blk W (w.heap.size + 1) 35 #[.int .i64 0, .int .i64 0, .slice none 0 0, .int .i64 0, .int .i64 0, .int .i64 0, .int .i64 0, .int .i64 0, .bool false, .bool false, .bool false, .bool false, .int .i64 0, .int .i64 0, .int .i64 0, .slice none 0 0] ∧ Blk W (w.heap.size + 1 + 1) 35 #[.int .i64 0, .int .i64 0, .slice none 0 0, .int .i64 0, .int .i64 0, .int .i64 0, .int .i64 0, .int .i64 0, .bool false, .bool false, .bool false, .bool false, .int .i64 0, .int .i64 0, .int .i64 0, .slice none 0 0]
theorem ASt.grown {w W W' : World} {ca : Array Value} {g : Nat} (h : ASt w ca W) (hg : W.grownBy W' (some g)) (h3 : w.heap.size + 3 ≤ g) : ASt w ca W' := by
  obtain ⟨h1, h2, h4, h5⟩ := h
  exact ⟨h1.grown hg (Nat.le_of_lt h2.lt) (fun k e => by cases e; omega), h2.grown hg (fun e => by injection e with e; omega), h4.grown hg (fun e => by injection e with e; omega), h5.grown hg (fun e => by injection e with e; omega)⟩
theorem ASt.lt {w W : World} {ca : Array Value} (h : ASt w ca W) : w.heap.size + 3 ≤ W.heap.size := h.2.2.2.lt
theorem ASt.later {w W W' : World} {ca : Array Value} (h : ASt w ca W) (hb : Below W.heap.size W W') : ASt w ca W' := h.grown (grown_below' (g := W.heap.size) hb) h.lt
theorem ASt.drewN {w W : World} {ca : Array Value} (h : ASt w ca W) (k : Nat) : ASt w ca (W.drewN k) := ⟨⟨h.1.os, h.1.tape, h.1.output, h.1.size, h.1.block⟩, h.2⟩
set_option maxHeartbeats 16000000 in
set_option maxRecDepth 100000 in
theorem apply_bad {lo up lo2 up2 : Nat} {s : Scr} {C M D : Option Addr} {cc cm dc : Nat} {d : List UInt8} {w : World} (hat : ScrAt w lo up s C cc M cm) (hup : up ≤ w.heap.size) (hd : Sl w lo2 up2 1 D d.length dc (byteCells d)) (hup2 : up2 ≤ w.heap.size) (hl : s.Len) (h : gOk s = false) :
    Calls Try.prog 27 #[.agg (s.v C cc M cm), .slice D d.length dc] w (RetAp w noScr 170) := by
  have HC := Lib.hid (fun W (b : Below w.heap.size w W) => check_bad (hat.below b hup) (Nat.le_trans hup b.size) hl h)
  obtain ⟨W, H, X, Y, At, Tp, Bt, wr, au, hi, al, s0, s1, s2, cs, ms⟩ := s
  unfold Scr.v at HC ⊢
  simp only at HC ⊢
  clear hat hl h hd
  have st0 : ASt w #[.int .i64 W, .int .i64 H, .slice C cs.length cc, .int .i64 X, .int .i64 Y, .int .i64 At, .int .i64 Tp, .int .i64 Bt, .bool wr, .bool au, .bool hi, .bool al, .int .i64 s0, .int .i64 s1, .int .i64 s2, .slice M ms.length cm] (((w.alloc (.cells #[.int .i64 W, .int .i64 H, .slice C cs.length cc, .int .i64 X, .int .i64 Y, .int .i64 At, .int .i64 Tp, .int .i64 Bt, .bool wr, .bool au, .bool hi, .bool al, .int .i64 s0, .int .i64 s1, .int .i64 s2, .slice M ms.length cm] 35)).alloc (.cells #[.int .i64 0, .int .i64 0, .slice none 0 0, .int .i64 0, .int .i64 0, .int .i64 0, .int .i64 0, .int .i64 0, .bool false, .bool false, .bool false, .bool false, .int .i64 0, .int .i64 0, .int .i64 0, .slice none 0 0] 35)).alloc (.cells #[.int .i64 0, .int .i64 0, .slice none 0 0, .int .i64 0, .int .i64 0, .int .i64 0, .int .i64 0, .int .i64 0, .bool false, .bool false, .bool false, .bool false, .int .i64 0, .int .i64 0, .int .i64 0, .slice none 0 0] 35)) := by
    refine ⟨(((Below.refl w.heap.size w).alloc (Nat.le_refl _) _).alloc (by simp) _).alloc (by simp; omega) _, ?_, ?_, ?_⟩
    · exact (((Blk.new w 35 #[.int .i64 W, .int .i64 H, .slice C cs.length cc, .int .i64 X, .int .i64 Y, .int .i64 At, .int .i64 Tp, .int .i64 Bt, .bool wr, .bool au, .bool hi, .bool al, .int .i64 s0, .int .i64 s1, .int .i64 s2, .slice M ms.length cm] rfl).alloc _).alloc _)
    · exact (Blk.new _ 35 #[.int .i64 0, .int .i64 0, .slice none 0 0, .int .i64 0, .int .i64 0, .int .i64 0, .int .i64 0, .int .i64 0, .bool false, .bool false, .bool false, .bool false, .int .i64 0, .int .i64 0, .int .i64 0, .slice none 0 0] (by simp)).alloc _
    · exact Blk.new _ 35 #[.int .i64 0, .int .i64 0, .slice none 0 0, .int .i64 0, .int .i64 0, .int .i64 0, .int .i64 0, .int .i64 0, .bool false, .bool false, .bool false, .bool false, .int .i64 0, .int .i64 0, .int .i64 0, .slice none 0 0] (by simp)
  go_enter Try.func27, Try.ntmps27
  go_upto_region 2 with fail
  generalize hW0 : (((w.alloc (.cells #[.int .i64 W, .int .i64 H, .slice C cs.length cc, .int .i64 X, .int .i64 Y, .int .i64 At, .int .i64 Tp, .int .i64 Bt, .bool wr, .bool au, .bool hi, .bool al, .int .i64 s0, .int .i64 s1, .int .i64 s2, .slice M ms.length cm] 35)).alloc (.cells #[.int .i64 0, .int .i64 0, .slice none 0 0, .int .i64 0, .int .i64 0, .int .i64 0, .int .i64 0, .int .i64 0, .bool false, .bool false, .bool false, .bool false, .int .i64 0, .int .i64 0, .int .i64 0, .slice none 0 0] 35)).alloc (.cells #[.int .i64 0, .int .i64 0, .slice none 0 0, .int .i64 0, .int .i64 0, .int .i64 0, .int .i64 0, .int .i64 0, .bool false, .bool false, .bool false, .bool false, .int .i64 0, .int .i64 0, .int .i64 0, .slice none 0 0] 35)) = W0 at *
  clear hW0
  have kst := bs16 st0.2.1 rfl
  go_wp2_with (((with_reducible refine wpList_ld2 kst ?_ ?_); rfl))
  refine (HC.out _ st0.1).mono ?_
  rintro e w1 ⟨rfl, b1⟩
  have st1 := st0.later b1
  clear b1 st0
  obtain ⟨bbx, -, bz1, bz2⟩ := st1
  obtain ⟨W4, hst, B, hgr, hz4⟩ := scr_st bz1 rfl #[.int .i64 0, .int .i64 0, .slice none 0 0, .int .i64 0, .int .i64 0, .int .i64 0, .int .i64 0, .int .i64 0, .bool false, .bool false, .bool false, .bool false, .int .i64 0, .int .i64 0, .int .i64 0, .slice none 0 0] rfl rfl
  have bb4 := bbx.grown hgr (by have := bz1.lt; omega) (fun k e => by cases e; omega)
  have kz2 := bs16 bz2 rfl
  clear bz1 bz2 bbx hgr
  go_wp2_with (first | ((with_reducible refine wpList_ld2 kz2 ?_ ?_); rfl) | ((with_reducible refine wpList_st2 hst ?_ ?_); exact ⟨rfl, rfl⟩))
  exact bodyPost_ret (results_cell2 rfl _ rfl B rfl) rfl ⟨none, 0, none, 0, rfl, World.ownsRow_nil _ _ _ _, World.ownsRow_nil _ _ _ _, bb4⟩
end

/- The walk of diff.Apply, of bytes that are no difference by their head. -/
section
open Go.RowKit
set_option linter.unusedVariables false
set_option linter.unusedSimpArgs false
attribute [local go_sem ↓] Go.wp_at_zero Go.wp_at_succ

set_option maxHeartbeats 16000000 in
set_option maxRecDepth 100000 in
theorem apply_short {lo up lo2 up2 : Nat} {s : Scr} {C M D : Option Addr} {cc cm dc : Nat} {d : List UInt8} {w : World} (hat : ScrAt w lo up s C cc M cm) (hup : up ≤ w.heap.size) (hd : Sl w lo2 up2 1 D d.length dc (byteCells d)) (hup2 : up2 ≤ w.heap.size) (hl : s.Len) (h : gOk s = true) (hdl : d.length ≤ 1000000) (hsh : (vAll d).2 ≠ 0 ∨ (vAll d).1.length < 11 ∨ 64 < max ((vAll d).1.getD 0 0) ((vAll d).1.getD 1 0)) :
    Calls Try.prog 27 #[.agg (s.v C cc M cm), .slice D d.length dc] w (RetAp w noScr 190) := by
  have HC := Lib.hid (fun W (b : Below w.heap.size w W) => check_ok (hat.below b hup) (Nat.le_trans hup b.size) hl h)
  have HSH := Lib.hid hsh
  obtain ⟨W, H, X, Y, At, Tp, Bt, wr, au, hi, al, s0, s1, s2, cs, ms⟩ := s
  unfold Scr.v at HC ⊢
  simp only at HC ⊢
  clear hat hl h hsh
  have HA := Lib.hid (fun W (b : Below w.heap.size w W) => all_any (hd.below b hup2) (Nat.le_trans hup2 b.size) hdl)
  obtain ⟨⟨L, en⟩, hq⟩ : ∃ q, q = vAll d := ⟨_, rfl⟩
  rw [← hq] at HA HSH
  simp only at HSH
  clear hq hd
  have st0 : ASt w #[.int .i64 W, .int .i64 H, .slice C cs.length cc, .int .i64 X, .int .i64 Y, .int .i64 At, .int .i64 Tp, .int .i64 Bt, .bool wr, .bool au, .bool hi, .bool al, .int .i64 s0, .int .i64 s1, .int .i64 s2, .slice M ms.length cm] (((w.alloc (.cells #[.int .i64 W, .int .i64 H, .slice C cs.length cc, .int .i64 X, .int .i64 Y, .int .i64 At, .int .i64 Tp, .int .i64 Bt, .bool wr, .bool au, .bool hi, .bool al, .int .i64 s0, .int .i64 s1, .int .i64 s2, .slice M ms.length cm] 35)).alloc (.cells #[.int .i64 0, .int .i64 0, .slice none 0 0, .int .i64 0, .int .i64 0, .int .i64 0, .int .i64 0, .int .i64 0, .bool false, .bool false, .bool false, .bool false, .int .i64 0, .int .i64 0, .int .i64 0, .slice none 0 0] 35)).alloc (.cells #[.int .i64 0, .int .i64 0, .slice none 0 0, .int .i64 0, .int .i64 0, .int .i64 0, .int .i64 0, .int .i64 0, .bool false, .bool false, .bool false, .bool false, .int .i64 0, .int .i64 0, .int .i64 0, .slice none 0 0] 35)) := by
    refine ⟨(((Below.refl w.heap.size w).alloc (Nat.le_refl _) _).alloc (by simp) _).alloc (by simp; omega) _, ?_, ?_, ?_⟩
    · exact (((Blk.new w 35 #[.int .i64 W, .int .i64 H, .slice C cs.length cc, .int .i64 X, .int .i64 Y, .int .i64 At, .int .i64 Tp, .int .i64 Bt, .bool wr, .bool au, .bool hi, .bool al, .int .i64 s0, .int .i64 s1, .int .i64 s2, .slice M ms.length cm] rfl).alloc _).alloc _)
    · exact (Blk.new _ 35 #[.int .i64 0, .int .i64 0, .slice none 0 0, .int .i64 0, .int .i64 0, .int .i64 0, .int .i64 0, .int .i64 0, .bool false, .bool false, .bool false, .bool false, .int .i64 0, .int .i64 0, .int .i64 0, .slice none 0 0] (by simp)).alloc _
    · exact Blk.new _ 35 #[.int .i64 0, .int .i64 0, .slice none 0 0, .int .i64 0, .int .i64 0, .int .i64 0, .int .i64 0, .int .i64 0, .bool false, .bool false, .bool false, .bool false, .int .i64 0, .int .i64 0, .int .i64 0, .slice none 0 0] (by simp)
  go_enter Try.func27, Try.ntmps27
  go_upto_region 2 with fail
  generalize hW0 : (((w.alloc (.cells #[.int .i64 W, .int .i64 H, .slice C cs.length cc, .int .i64 X, .int .i64 Y, .int .i64 At, .int .i64 Tp, .int .i64 Bt, .bool wr, .bool au, .bool hi, .bool al, .int .i64 s0, .int .i64 s1, .int .i64 s2, .slice M ms.length cm] 35)).alloc (.cells #[.int .i64 0, .int .i64 0, .slice none 0 0, .int .i64 0, .int .i64 0, .int .i64 0, .int .i64 0, .int .i64 0, .bool false, .bool false, .bool false, .bool false, .int .i64 0, .int .i64 0, .int .i64 0, .slice none 0 0] 35)).alloc (.cells #[.int .i64 0, .int .i64 0, .slice none 0 0, .int .i64 0, .int .i64 0, .int .i64 0, .int .i64 0, .int .i64 0, .bool false, .bool false, .bool false, .bool false, .int .i64 0, .int .i64 0, .int .i64 0, .slice none 0 0] 35)) = W0 at *
  clear hW0
  have kst := bs16 st0.2.1 rfl
  go_wp2_with (((with_reducible refine wpList_ld2 kst ?_ ?_); rfl))
  refine (HC.out _ st0.1).mono ?_
  rintro e w1 ⟨rfl, b1⟩
  have st1 := st0.later b1
  clear b1 st0
  go_wp2_with fail
  refine (HA.out _ st1.1).mono ?_
  rintro e w2 ⟨A, c, rfl, hown, b2⟩
  have st2 := st1.later b2
  have sl := Sl.of_own hown
  have z2 := st2.lt
  clear b2 st1 HA HC hown
  go_upto_region 6 with fail
  go_cut [44] (fun s44 wx => ∃ k : Nat, s44 = .bool true ∧ w2.drewN k = wx)
  case first =>
    by_cases h1 : en = 0
    rotate_left
    · have d1 : (en == 0) = false := by simpa using h1
      have d2 : (en != 0) = true := by simp [h1]
      clear h1 HSH
      go_wp2_with fail
      go_quiet (skip)
      go_wp2_with fail
      go_meet
      exact ⟨_, rfl, rfl⟩
    · subst h1
      by_cases h2 : L.length < 11
      · have h3 : (L.length : Int) < 11 := by omega
        go_wp2_with fail
        go_quiet (skip)
        go_wp2_with fail
        go_meet
        exact ⟨_, rfl, rfl⟩
      · have h3 : ¬ ((L.length : Int) < 11) := by omega
        obtain ⟨x0, x1, r, rfl⟩ : ∃ x0 x1 r, L = x0 :: x1 :: r := by
          match L, h2 with
          | x0 :: x1 :: r, _ => exact ⟨x0, x1, r, rfl⟩
          | [_], h => simp at h
          | [], h => simp at h
        have h5 : 64 < max x0 x1 := by
          rcases HSH.out with h | h | h
          · exact absurd rfl h
          · exact absurd h h2
          · simpa using h
        obtain ⟨b, o, rfl, hb1, hb2, hc⟩ := sl.at_ (by simp)
        have k0 : w2.cell? ⟨b, o, none⟩ = some (.int .i64 x0) := by have := hc 0 (by simp [intCells]); simpa [intCells] using this
        have k1 : w2.cell? ⟨b, o + 1, none⟩ = some (.int .i64 x1) := by have := hc 1 (by simp [intCells]); simpa [intCells] using this
        have a1 := addr_add b o 1
        simp only [List.length_cons] at *
        generalize r.length + 1 + 1 = N at *
        have h6 : 11 ≤ (N : Int) := by omega
        have d3 : decide ((N : Int) < 11) = false := by simpa using h6
        rcases Int.lt_or_le x0 x1 with h7 | h7
        · have d5 : decide (64 < x1) = true := by simp; omega
          have d6 : 64 < x1 := by omega
          go_wp2_with fail
          go_quiet (skip)
          go_wp2_with fail
          go_meet
          exact ⟨_, rfl, rfl⟩
        · have d5 : decide (64 < x0) = true := by simp; omega
          have d6 : 64 < x0 := by omega
          go_wp2_with fail
          go_quiet (skip)
          go_wp2_with fail
          go_meet
          exact ⟨_, rfl, rfl⟩
  case rest =>
    obtain ⟨k, rfl, rfl⟩ := hcut
    have st3 := st2.drewN k
    generalize w2.drewN k = w3 at *
    obtain ⟨bbx, -, bz1, bz2⟩ := st3
    obtain ⟨W4, hst, B, hgr, hz4⟩ := scr_st bz1 rfl #[.int .i64 0, .int .i64 0, .slice none 0 0, .int .i64 0, .int .i64 0, .int .i64 0, .int .i64 0, .int .i64 0, .bool false, .bool false, .bool false, .bool false, .int .i64 0, .int .i64 0, .int .i64 0, .slice none 0 0] rfl rfl
    have bb4 := bbx.grown hgr (by have := bz1.lt; omega) (fun k e => by cases e; omega)
    have kz2 := bs16 bz2 rfl
    clear bz1 bz2 bbx hgr
    go_wp2_with (first | ((with_reducible refine wpList_ld2 kz2 ?_ ?_); rfl) | ((with_reducible refine wpList_st2 hst ?_ ?_); exact ⟨rfl, rfl⟩))
    exact bodyPost_ret (results_cell2 rfl _ rfl B rfl) rfl ⟨none, 0, none, 0, rfl, World.ownsRow_nil _ _ _ _, World.ownsRow_nil _ _ _ _, bb4⟩
end
end Go.Proofs.Ytfeeincglijmjaa
