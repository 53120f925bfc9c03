/- Texts of this seat, one behind the other. -/
import Derived.Test.YtfeeincglijmjaaEG
namespace Go.Proofs.Ytfeeincglijmjaa
open Go.RowKit
set_option linter.unusedVariables false
set_option linter.unusedSimpArgs false
attribute [local go_sem ↓] Go.wp_at_zero Go.wp_at_succ

set_option maxHeartbeats 16000000 in
set_option maxRecDepth 100000 in
theorem apply_t {lo up lo2 up2 : Nat} {s : Scr} {C M D : Option Addr} {cc cm dc : Nat} {d : List UInt8} {w : World} (hat : ScrAt w lo up s C cc M cm) (hup : up ≤ w.heap.size) (hd : Sl w lo2 up2 1 D d.length dc (byteCells d)) (hup2 : up2 ≤ w.heap.size) (hl : s.Len) {x0 x1 x2 x3 x4 x5 x6 x7 x8 x9 x10 : Int} {r : List Int} (h : gOk s = true) (hsl : s.cs.length ≤ 4096 ∧ s.ms.length ≤ 4096) (hdl : d.length ≤ 1000000) (hq : vAll d = (x0 :: x1 :: x2 :: x3 :: x4 :: x5 :: x6 :: x7 :: x8 :: x9 :: x10 :: r, 0)) (h0 : 0 ≤ x0 ∧ x0 ≤ 64) (h1 : 0 ≤ x1 ∧ x1 ≤ 64) (hr : ∀ x ∈ r, 0 ≤ x) (hrl : r.length ≤ 1000000) (h7 : 0 ≤ x7 ∧ x7 ≤ 4611686018427387903) (hal : oBit x7 3 = true)
    {T : Scr} (hT : T = ⟨x0, x1, x2, x3, x4, x5, x6, oBit x7 0, oBit x7 1, oBit x7 2, true, x8, x9, x10, (nChg (dGround s x0 x1).1 r false).1, (nChg (dGround s x0 x1).2 (nChg (dGround s x0 x1).1 r false).2.1 (nChg (dGround s x0 x1).1 r false).2.2).1⟩) {B : Bool} (hB : ((nChg (dGround s x0 x1).2 (nChg (dGround s x0 x1).1 r false).2.1 (nChg (dGround s x0 x1).1 r false).2.2).2.2 || !decide ((dDiff' s T).2 = 0) || !decide ((dDiff' s T).1 = d)) = B) :
    Calls Try.prog 27 #[.agg (s.v C cc M cm), .slice D d.length dc] w (RetAp w (bif B then noScr else T) (bif B then 190 else 0)) := by
  obtain ⟨i0, hi0, hz0, hz1, hz2⟩ := info_parts info3
  have HC := Lib.hid (fun W (b : Below w.heap.size w W) => check_ok (hat.below b hup) (Nat.le_trans hup b.size) hl h)
  have hG := gr_len s x0 x1 h0 h1 hsl
  have HG := Lib.hid (fun W (b : Below w.heap.size w W) => grounds_any (a := x0) (b := x1) (hat.below b hup) (Nat.le_trans hup b.size) (area0 h0 h1))
  have HDF := Lib.hid (fun W (b : Below w.heap.size w W) lo2 up2 C2 cc2 M2 cm2 (hat2 : ScrAt W lo2 up2 T C2 cc2 M2 cm2) (hup2 : up2 ≤ W.heap.size) (hl2 : T.Len) => diff_any (hat.below b hup) (Nat.le_trans hup b.size) hat2 hup2 hl hl2)
  have HDD := Lib.hid hd
  generalize hDD : dDiff' s T = DD at *
  clear hDD
  generalize dGround s x0 x1 = GG at *
  obtain ⟨G1, G2⟩ := GG
  simp only at hT hB hG
  obtain ⟨W, H, X, Y, At, Tp, Bt, wr, au, hi, al, s0, s1, s2, cs, ms⟩ := s
  unfold Scr.v at HC HG HDF ⊢
  simp only at HC HG HDF ⊢
  clear hat hl h hsl
  have HA := Lib.hid (fun W (b : Below w.heap.size w W) => all_any (hd.below b hup2) (Nat.le_trans hup2 b.size) hdl)
  rw [hq] at HA
  clear hq hd
  have HR0 := Lib.hid hr
  have HB := Lib.hid hB
  have HT := Lib.hid hT
  clear hr hB hT
  have st0 : ASt w #[.int .i64 W, .int .i64 H, .slice C cs.length cc, .int .i64 X, .int .i64 Y, .int .i64 At, .int .i64 Tp, .int .i64 Bt, .bool wr, .bool au, .bool hi, .bool al, .int .i64 s0, .int .i64 s1, .int .i64 s2, .slice M ms.length cm] (((w.alloc (.cells #[.int .i64 W, .int .i64 H, .slice C cs.length cc, .int .i64 X, .int .i64 Y, .int .i64 At, .int .i64 Tp, .int .i64 Bt, .bool wr, .bool au, .bool hi, .bool al, .int .i64 s0, .int .i64 s1, .int .i64 s2, .slice M ms.length cm] 35)).alloc (.cells #[.int .i64 0, .int .i64 0, .slice none 0 0, .int .i64 0, .int .i64 0, .int .i64 0, .int .i64 0, .int .i64 0, .bool false, .bool false, .bool false, .bool false, .int .i64 0, .int .i64 0, .int .i64 0, .slice none 0 0] 35)).alloc (.cells #[.int .i64 0, .int .i64 0, .slice none 0 0, .int .i64 0, .int .i64 0, .int .i64 0, .int .i64 0, .int .i64 0, .bool false, .bool false, .bool false, .bool false, .int .i64 0, .int .i64 0, .int .i64 0, .slice none 0 0] 35)) := by
    refine ⟨(((Below.refl w.heap.size w).alloc (Nat.le_refl _) _).alloc (by simp) _).alloc (by simp; omega) _, ?_, ?_, ?_⟩
    · exact (((Blk.new w 35 #[.int .i64 W, .int .i64 H, .slice C cs.length cc, .int .i64 X, .int .i64 Y, .int .i64 At, .int .i64 Tp, .int .i64 Bt, .bool wr, .bool au, .bool hi, .bool al, .int .i64 s0, .int .i64 s1, .int .i64 s2, .slice M ms.length cm] rfl).alloc _).alloc _)
    · exact (Blk.new _ 35 #[.int .i64 0, .int .i64 0, .slice none 0 0, .int .i64 0, .int .i64 0, .int .i64 0, .int .i64 0, .int .i64 0, .bool false, .bool false, .bool false, .bool false, .int .i64 0, .int .i64 0, .int .i64 0, .slice none 0 0] (by simp)).alloc _
    · exact Blk.new _ 35 #[.int .i64 0, .int .i64 0, .slice none 0 0, .int .i64 0, .int .i64 0, .int .i64 0, .int .i64 0, .int .i64 0, .bool false, .bool false, .bool false, .bool false, .int .i64 0, .int .i64 0, .int .i64 0, .slice none 0 0] (by simp)
  go_enter Try.func27, Try.ntmps27
  go_upto_region 2 with fail
  generalize hW0 : (((w.alloc (.cells #[.int .i64 W, .int .i64 H, .slice C cs.length cc, .int .i64 X, .int .i64 Y, .int .i64 At, .int .i64 Tp, .int .i64 Bt, .bool wr, .bool au, .bool hi, .bool al, .int .i64 s0, .int .i64 s1, .int .i64 s2, .slice M ms.length cm] 35)).alloc (.cells #[.int .i64 0, .int .i64 0, .slice none 0 0, .int .i64 0, .int .i64 0, .int .i64 0, .int .i64 0, .int .i64 0, .bool false, .bool false, .bool false, .bool false, .int .i64 0, .int .i64 0, .int .i64 0, .slice none 0 0] 35)).alloc (.cells #[.int .i64 0, .int .i64 0, .slice none 0 0, .int .i64 0, .int .i64 0, .int .i64 0, .int .i64 0, .int .i64 0, .bool false, .bool false, .bool false, .bool false, .int .i64 0, .int .i64 0, .int .i64 0, .slice none 0 0] 35)) = W0 at *
  clear hW0
  have kst := bs16 st0.2.1 rfl
  go_wp2_with (((with_reducible refine wpList_ld2 kst ?_ ?_); rfl))
  refine (HC.out _ st0.1).mono ?_
  rintro e w1 ⟨rfl, b1⟩
  have st1 := st0.later b1
  clear b1 st0
  go_wp2_with fail
  refine (HA.out _ st1.1).mono ?_
  rintro e w2 ⟨A, c, rfl, hown, b2⟩
  have st2 := st1.later b2
  have sl := Sl.of_own hown
  have z2 := st2.lt
  clear b2 st1 HA HC hown
  obtain ⟨b, o, rfl, hb1, hb2, hc⟩ := sl.at_ (by simp)
  have k0 : w2.cell? ⟨b, o, none⟩ = some (.int .i64 x0) := by have := hc 0 (by simp [intCells]); simpa [intCells] using this
  have k1 : w2.cell? ⟨b, o + 1, none⟩ = some (.int .i64 x1) := by have := hc 1 (by simp [intCells]); simpa [intCells] using this
  have k2 : w2.cell? ⟨b, o + 2, none⟩ = some (.int .i64 x2) := by have := hc 2 (by simp [intCells]); simpa [intCells] using this
  have k3 : w2.cell? ⟨b, o + 3, none⟩ = some (.int .i64 x3) := by have := hc 3 (by simp [intCells]); simpa [intCells] using this
  have k4 : w2.cell? ⟨b, o + 4, none⟩ = some (.int .i64 x4) := by have := hc 4 (by simp [intCells]); simpa [intCells] using this
  have k5 : w2.cell? ⟨b, o + 5, none⟩ = some (.int .i64 x5) := by have := hc 5 (by simp [intCells]); simpa [intCells] using this
  have k6 : w2.cell? ⟨b, o + 6, none⟩ = some (.int .i64 x6) := by have := hc 6 (by simp [intCells]); simpa [intCells] using this
  have k7 : w2.cell? ⟨b, o + 7, none⟩ = some (.int .i64 x7) := by have := hc 7 (by simp [intCells]); simpa [intCells] using this
  have k8 : w2.cell? ⟨b, o + 8, none⟩ = some (.int .i64 x8) := by have := hc 8 (by simp [intCells]); simpa [intCells] using this
  have k9 : w2.cell? ⟨b, o + 9, none⟩ = some (.int .i64 x9) := by have := hc 9 (by simp [intCells]); simpa [intCells] using this
  have k10 : w2.cell? ⟨b, o + 10, none⟩ = some (.int .i64 x10) := by have := hc 10 (by simp [intCells]); simpa [intCells] using this
  have a1 := addr_add b o 1
  have a2 := addr_add b o 2
  have a3 := addr_add b o 3
  have a4 := addr_add b o 4
  have a5 := addr_add b o 5
  have a6 := addr_add b o 6
  have a7 := addr_add b o 7
  have a9 := addr_add b (o + 8) 1
  have a10 := addr_add b (o + 8) 2
  have hbd := fun (w : World) => run_build (P := Try.prog) w 35 #[(0, .int .i64 x0), (1, .int .i64 x1), (3, .int .i64 x2), (4, .int .i64 x3), (5, .int .i64 x4), (6, .int .i64 x5), (7, .int .i64 x6), (12, .agg #[.int .i64 x8, .int .i64 x9, .int .i64 x10])] #[.int .i64 x0, .int .i64 x1, .slice none 0 0, .int .i64 x2, .int .i64 x3, .int .i64 x4, .int .i64 x5, .int .i64 x6, .bool false, .bool false, .bool false, .bool false, .int .i64 x8, .int .i64 x9, .int .i64 x10, .slice none 0 0] (by kernel_rfl)
  have hle := sl.le
  simp only [List.length_cons] at *
  obtain ⟨N, hN⟩ : ∃ N, N = r.length + 1 + 1 + 1 + 1 + 1 + 1 + 1 + 1 + 1 + 1 + 1 := ⟨_, rfl⟩
  have hN11 : 11 ≤ N := by omega
  rw [← hN] at sl hle ⊢
  have HN := Lib.hid hN
  have HSL := Lib.hid sl
  have hsl := cut_three b o N c hN11 hle
  have harr := arr_three (some ⟨b, o + 8, none⟩) (c - 8)
  have hd1 : decide ((N : Int) < 11) = false := by simp; omega
  have hd2 : ¬ ((N : Int) < 11) := by omega
  have hd3 : decide (64 < x0) = false := by simp; omega
  have hd4 : decide (64 < x1) = false := by simp; omega
  have hd5 : ¬ (64 < x0) := by omega
  have hd6 : ¬ (64 < x1) := by omega
  have hn1 : 1 < (N : Int) := by omega
  have hn2 : (2 : Int) < N := by omega
  have hn0 : (0 : Int) < N := by omega
  have hn3 : (3 : Int) < N := by omega
  have hn4 : (4 : Int) < N := by omega
  have hn5 : (5 : Int) < N := by omega
  have hn6 : (6 : Int) < N := by omega
  have hn7 : (7 : Int) < N := by omega
  have hn00 : 0 < N := by omega
  have hn10 : (10 : Int) < N := by omega
  have hn11 : (11 : Int) ≤ N := by omega
  clear hc hN sl
  go_upto_region 6 with fail
  go_cut [44] (fun s44 wx => ∃ k : Nat, s44 = .bool false ∧ w2.drewN k = wx)
  case first =>
    rcases Int.lt_or_le x0 x1 with h7 | h7
    · go_wp2_with fail
      go_quiet (skip)
      go_wp2_with fail
      go_meet
      exact ⟨_, rfl, rfl⟩
    · go_wp2_with fail
      go_quiet (skip)
      go_wp2_with fail
      go_meet
      exact ⟨_, rfl, rfl⟩
  case rest =>
    obtain ⟨k, rfl, rfl⟩ := hcut
    have st3 := st2.drewN k
    have sl3 : Sl (w2.drewN k) w1.heap.size (w2.drewN k).heap.size 1 (some ⟨b, o, none⟩) N c _ := HSL.out.drewN k
    have hk3 : (w2.drewN k).cell? ⟨b, o, none⟩ = some (.int .i64 x0) ∧ (w2.drewN k).cell? ⟨b, o + 1, none⟩ = some (.int .i64 x1) ∧ (w2.drewN k).cell? ⟨b, o + 2, none⟩ = some (.int .i64 x2) ∧ (w2.drewN k).cell? ⟨b, o + 3, none⟩ = some (.int .i64 x3) ∧ (w2.drewN k).cell? ⟨b, o + 4, none⟩ = some (.int .i64 x4) ∧ (w2.drewN k).cell? ⟨b, o + 5, none⟩ = some (.int .i64 x5) ∧ (w2.drewN k).cell? ⟨b, o + 6, none⟩ = some (.int .i64 x6) ∧ (w2.drewN k).cell? ⟨b, o + 8, none⟩ = some (.int .i64 x8) ∧ (w2.drewN k).cell? ⟨b, o + 9, none⟩ = some (.int .i64 x9) ∧ (w2.drewN k).cell? ⟨b, o + 10, none⟩ = some (.int .i64 x10) ∧ (w2.drewN k).cell? ⟨b, o + 7, none⟩ = some (.int .i64 x7) ∧ b < (w2.drewN k).heap.size := ⟨k0, k1, k2, k3, k4, k5, k6, k8, k9, k10, k7, hb2⟩
    clear st2 HSL hb2 k0 k1 k2 k3 k4 k5 k6 k7 k8 k9 k10
    have z3 := st3.lt
    generalize w2.drewN k = w3 at *
    obtain ⟨k0, k1, k2, k3, k4, k5, k6, k8, k9, k10, k7, hb3⟩ := hk3
    go_upto_region 8 with fail
    go_cut [10] (fun s10 wx => s10 = .pointer (some ⟨w3.heap.size, 0, none⟩) ∧ Below w3.heap.size w3 wx ∧ Blk wx w3.heap.size 35 #[.int .i64 x0, .int .i64 x1, .slice none 0 0, .int .i64 x2, .int .i64 x3, .int .i64 x4, .int .i64 x5, .int .i64 x6, .bool false, .bool false, .bool false, .bool false, .int .i64 x8, .int .i64 x9, .int .i64 x10, .slice none 0 0])
    case first =>
      have hS : ∀ ob : Obj, (fun w' : World => w'.cell? ⟨b, o, none⟩ = some (.int .i64 x0) ∧ w'.cell? ⟨b, o + 1, none⟩ = some (.int .i64 x1) ∧ w'.cell? ⟨b, o + 2, none⟩ = some (.int .i64 x2) ∧ w'.cell? ⟨b, o + 3, none⟩ = some (.int .i64 x3) ∧ w'.cell? ⟨b, o + 4, none⟩ = some (.int .i64 x4) ∧ w'.cell? ⟨b, o + 5, none⟩ = some (.int .i64 x5) ∧ w'.cell? ⟨b, o + 6, none⟩ = some (.int .i64 x6) ∧ w'.cell? ⟨b, o + 8, none⟩ = some (.int .i64 x8) ∧ w'.cell? ⟨b, o + 9, none⟩ = some (.int .i64 x9) ∧ w'.cell? ⟨b, o + 10, none⟩ = some (.int .i64 x10)) (w3.drew.alloc ob) := fun ob => ⟨(World.cell?_alloc_lt _ _ _ (by exact hb3)).trans k0, (World.cell?_alloc_lt _ _ _ (by exact hb3)).trans k1, (World.cell?_alloc_lt _ _ _ (by exact hb3)).trans k2, (World.cell?_alloc_lt _ _ _ (by exact hb3)).trans k3, (World.cell?_alloc_lt _ _ _ (by exact hb3)).trans k4, (World.cell?_alloc_lt _ _ _ (by exact hb3)).trans k5, (World.cell?_alloc_lt _ _ _ (by exact hb3)).trans k6, (World.cell?_alloc_lt _ _ _ (by exact hb3)).trans k8, (World.cell?_alloc_lt _ _ _ (by exact hb3)).trans k9, (World.cell?_alloc_lt _ _ _ (by exact hb3)).trans k10⟩
      clear HG HDF HDD HR0 HB HT st3 sl3
      go_region_held3 (fun w' : World => w'.cell? ⟨b, o, none⟩ = some (.int .i64 x0) ∧ w'.cell? ⟨b, o + 1, none⟩ = some (.int .i64 x1) ∧ w'.cell? ⟨b, o + 2, none⟩ = some (.int .i64 x2) ∧ w'.cell? ⟨b, o + 3, none⟩ = some (.int .i64 x3) ∧ w'.cell? ⟨b, o + 4, none⟩ = some (.int .i64 x4) ∧ w'.cell? ⟨b, o + 5, none⟩ = some (.int .i64 x5) ∧ w'.cell? ⟨b, o + 6, none⟩ = some (.int .i64 x6) ∧ w'.cell? ⟨b, o + 8, none⟩ = some (.int .i64 x8) ∧ w'.cell? ⟨b, o + 9, none⟩ = some (.int .i64 x9) ∧ w'.cell? ⟨b, o + 10, none⟩ = some (.int .i64 x10)) (first | exact ⟨k0, k1, k2, k3, k4, k5, k6, k8, k9, k10⟩ | exact hS _) (fail)
      all_goals (go_wp2_with fail; go_meet)
      all_goals exact ⟨rfl, (Below.refl _ w3).drew.alloc (Nat.le_refl _) _, Blk.new _ 35 _ rfl⟩
    case rest =>
      obtain ⟨rfl, b4, kb4⟩ := hcut
      clear k0 k1 k2 k3 k4 k5 k6 k8 k9 k10 hbd hsl harr hd1 hd2 hd3 hd4 hd5 hd6
      have st4 := st3.later b4
      have sl4 := sl3.below b4 (Nat.le_refl _)
      have k7' := (b4.cell (p := ⟨b, o + 7, none⟩) hb3).trans k7
      clear st3 sl3 b4 k7
      have HBO := fun W (h : Blk W w3.heap.size 35 #[.int .i64 x0, .int .i64 x1, .slice none 0 0, .int .i64 x2, .int .i64 x3, .int .i64 x4, .int .i64 x5, .int .i64 x6, .bool false, .bool false, .bool false, .bool false, .int .i64 x8, .int .i64 x9, .int .i64 x10, .slice none 0 0]) => bitsOf_any (s := ⟨x0, x1, x2, x3, x4, x5, x6, false, false, false, false, x8, x9, x10, [], []⟩) (C := none) (cc := 0) (M := none) (cm := 0) h h7.1 h7.2
      unfold Scr.v at HBO
      simp only [List.length_nil] at HBO
      have HBO := Lib.hid HBO
      go_wp2_with fail
      refine (HBO.out _ kb4).mono ?_
      rintro e w5 ⟨rfl, g5, z5, kb5⟩
      have st5 := st4.grown g5 z3
      have sl5 := sl4.grown g5 (by have := kb4.lt; omega) (fun k e => by cases e; exact .inr (Nat.le_refl _))
      have zb5 := kb5.lt
      clear st4 sl4 kb4 g5 z5 HBO k7'
      have kr5 := kb5.rules
      obtain ⟨kc5, kf5⟩ := kr5
      have ab1 := addr_add w3.heap.size 0 1
      have ab2 := addr_add w3.heap.size 0 2
      have ab11 := addr_add w3.heap.size 0 11
      have ab13 := addr_add w3.heap.size 0 15
      have kst := bs16 st5.2.1 rfl
      go_wp2_with (((with_reducible refine wpList_ld2 kst ?_ ?_); rfl))
      refine (HG.out _ st5.1).mono ?_
      rintro e w6 ⟨A1, c1, A2, c2, rfl, sg1, sg2, b6⟩
      have st6 := st5.later b6
      have sl6 := sl5.below b6 (by omega)
      have kb6 := kb5.later b6
      clear st5 sl5 kb5 b6 kc5 kf5 HG
      obtain ⟨A3, hcut3, sr⟩ := cut_l Try.underlying88 hi0 hz1 sl6 11 r.length (11 : Int) rfl (by have := HN.out; omega)
      have sr : Sl w6 w1.heap.size w3.heap.size 1 A3 r.length (c - 11) (intCells r) := by simpa [intCells] using sr
      have hbn : ∀ (W : World), (Instr.build 98 #[(0, .slice A3 r.length (c - 11))]).run Try.prog W = .ok (.agg #[.slice A3 r.length (c - 11), .bool false]) W := fun W => run_build (P := Try.prog) W 98 #[(0, .slice A3 r.length (c - 11))] #[.slice A3 r.length (c - 11), .bool false] (by kernel_rfl)
      have z6 := kb6.lt
      have st7 := st6.later ((Below.refl _ w6).alloc (Nat.le_refl _) (.cells #[.slice A3 r.length (c - 11), .bool false] 98))
      have kb7 := kb6.alloc (.cells #[.slice A3 r.length (c - 11), .bool false] 98)
      have sg1' := sg1.alloc (Nat.le_refl _) (.cells #[.slice A3 r.length (c - 11), .bool false] 98)
      have sg2' := sg2.alloc (Nat.le_refl _) (.cells #[.slice A3 r.length (c - 11), .bool false] 98)
      have nb7 : NBox (w6.alloc (.cells #[.slice A3 r.length (c - 11), .bool false] 98)) w1.heap.size w3.heap.size w6.heap.size r false := ⟨A3, r.length, c - 11, Blk.new _ _ _ rfl, sr.alloc (by omega) _⟩
      have z7 : (w6.alloc (.cells #[.slice A3 r.length (c - 11), .bool false] 98)).heap.size = w6.heap.size + 1 := by simp
      have Z7 := Lib.hid z7
      clear st6 kb6 sl6 sr sg1 sg2 z7
      obtain ⟨gn, hgn⟩ : ∃ g, g = w6.heap.size := ⟨_, rfl⟩
      clear hgn gn
      have hc1 := nChg_len G1 r false
      go_wp2_with fail
      refine (changed_any sg1' (by rw [World.size_alloc]; omega) nb7 (by rw [World.size_alloc]; omega) (.inr (by omega)) hrl HR0.out (by omega)).mono ?_
      rintro e w8 ⟨C8, cc8, rfl, own8, g8, nb8, hr1, hrl1⟩
      obtain ⟨⟨L1, R1, l1⟩, hQ⟩ : ∃ Q, Q = nChg G1 r false := ⟨_, rfl⟩
      rw [← hQ] at own8 nb8 HB HT hc1 hr1 hrl1 ⊢
      simp only at own8 nb8 HB HT hc1 hr1 hrl1 ⊢
      have HR1 := Lib.hid (And.intro hr1 hrl1)
      clear hr1 hrl1
      clear hQ
      have hl1 : L1.length ≤ 4096 := by omega
      clear hc1
      have st8 := st7.grown g8 (by omega)
      have kb8 := kb7.grown g8 (fun e => by injection e with e; omega)
      have sg8 := sg2'.grown g8 (by rw [World.size_alloc]; omega) (fun k e => by cases e; exact .inr (Nat.le_refl _))
      have z8 : w6.heap.size + 1 ≤ w8.heap.size := by have := g8.size; rw [World.size_alloc] at this; exact this
      have own8 := own_more own8 (base' := w6.heap.size + 1) (by rw [World.size_alloc]; exact Nat.le_refl _)
      clear st7 kb7 sg1' sg2' nb7 g8 Z7
      have kr8 := kb8.rules
      obtain ⟨kc8, kf8⟩ := kr8
      have G9 := grownBy_setCells w3.heap.size [.slice C8 L1.length cc8] 2 w8
      have st9 : ASt w _ (w8.setCell ⟨w3.heap.size, 2, none⟩ (.slice C8 L1.length cc8)) := st8.grown G9 z3
      have kb9 := kb8.set_ 2 (.slice C8 L1.length cc8)
      have sg9 := sg8.setOdd (p := ⟨w3.heap.size, 2, none⟩) (kc8 2) (fun x e => by cases e) (.slice C8 L1.length cc8)
      have own9 := own_setBlk own8 kb8 (by decide) 2 (.slice C8 L1.length cc8)
      have nb9 := nb8.grown G9 (by omega) (fun k e => by cases e; exact ⟨.inr (Nat.le_refl _), by omega⟩)
      have z9 := G9.size
      have hz9 : (w8.setCell ⟨w3.heap.size, 2, none⟩ (.slice C8 L1.length cc8)).heap.size = w8.heap.size := by simp
      have Hst9 := Lib.hid st9
      have Hkb9 : Hid (Blk (w8.setCell ⟨w3.heap.size, 2, none⟩ (.slice C8 L1.length cc8)) w3.heap.size 35 #[.int .i64 x0, .int .i64 x1, .slice C8 L1.length cc8, .int .i64 x2, .int .i64 x3, .int .i64 x4, .int .i64 x5, .int .i64 x6, .bool (oBit x7 0), .bool (oBit x7 1), .bool (oBit x7 2), .bool (oBit x7 3), .int .i64 x8, .int .i64 x9, .int .i64 x10, .slice none 0 0]) := Lib.hid kb9
      have Hsg9 := Lib.hid sg9
      have Hown9 := Lib.hid own9
      have Hnb9 : Hid (NBox (w8.setCell ⟨w3.heap.size, 2, none⟩ (.slice C8 L1.length cc8)) w1.heap.size w3.heap.size w6.heap.size R1 l1) := Lib.hid nb9
      have Hz9 : Hid (w6.heap.size + 1 ≤ (w8.setCell ⟨w3.heap.size, 2, none⟩ (.slice C8 L1.length cc8)).heap.size) := Lib.hid (by rw [hz9]; exact z8)
      clear st8 sg8 own8 nb8 G9 st9 kb9 sg9 own9 nb9 z9 hz9 kb8
      go_upto_region 13 with fail
      generalize w8.setCell ⟨w3.heap.size, 2, none⟩ (.slice C8 L1.length cc8) = w9 at *
      clear kc8 kf8 z8
      have kb9 := Hkb9.out
      rw [hal] at kb9
      have kr9 := kb9.rules
      obtain ⟨kc9, kf9⟩ := kr9
      have z9 := Hz9.out
      have st9 := Hst9.out
      have own9 := Hown9.out
      have nb9 := Hnb9.out
      clear Hkb9 Hz9 Hst9 Hown9 Hnb9
      have sg9 := Hsg9.out
      clear Hsg9
      have hc2 := nChg_len G2 R1 l1
      go_wp2_with fail
      clear kc9 kf9
      refine (changed_any sg9 (by omega) nb9 (by omega) (.inr (by omega)) HR1.out.2 HR1.out.1 (by omega)).mono ?_
      rintro e w11 ⟨M9, cm9, rfl, own11, g11, nb11, -, -⟩
      obtain ⟨⟨L2, R2, l2⟩, hQ⟩ : ∃ Q, Q = nChg G2 R1 l1 := ⟨_, rfl⟩
      rw [← hQ] at own11 nb11 HB HT hc2 ⊢
      simp only at own11 nb11 HB HT hc2 ⊢
      have hl2 : L2.length ≤ 4096 := by omega
      clear hQ hc2 HR1
      have st11 := st9.grown g11 (by omega)
      have kb11 := kb9.grown g11 (fun e => by injection e with e; omega)
      have z11 := g11.size
      have ownC11 := own_keep own9 g11 (by omega)
      have own11 := own_more own11 (base' := w6.heap.size + 1) (by omega)
      clear st9 kb9 own9 sg9 nb9 g11
      have kr11 := kb11.rules
      obtain ⟨kc11, kf11⟩ := kr11
      have G12 := grownBy_setCells w3.heap.size [.slice M9 L2.length cm9] 15 w11
      have Hst9 : Hid (ASt w _ (w11.setCell ⟨w3.heap.size, 15, none⟩ (.slice M9 L2.length cm9))) := Lib.hid (st11.grown G12 z3)
      have Hkb9 : Hid (Blk (w11.setCell ⟨w3.heap.size, 15, none⟩ (.slice M9 L2.length cm9)) w3.heap.size 35 #[.int .i64 x0, .int .i64 x1, .slice C8 L1.length cc8, .int .i64 x2, .int .i64 x3, .int .i64 x4, .int .i64 x5, .int .i64 x6, .bool (oBit x7 0), .bool (oBit x7 1), .bool (oBit x7 2), .bool true, .int .i64 x8, .int .i64 x9, .int .i64 x10, .slice M9 L2.length cm9]) := Lib.hid (kb11.set_ 15 (.slice M9 L2.length cm9))
      have Hown9 := Lib.hid (own_setBlk ownC11 kb11 (by decide) 15 (.slice M9 L2.length cm9))
      have HownM := Lib.hid (own_setBlk own11 kb11 (by decide) 15 (.slice M9 L2.length cm9))
      have Hnb9 : Hid (NBox (w11.setCell ⟨w3.heap.size, 15, none⟩ (.slice M9 L2.length cm9)) w1.heap.size w3.heap.size w6.heap.size R2 l2) := Lib.hid (nb11.grown G12 (by omega) (fun k e => by cases e; exact ⟨.inr (Nat.le_refl _), by omega⟩))
      have Hz9 : Hid (w6.heap.size + 1 ≤ (w11.setCell ⟨w3.heap.size, 15, none⟩ (.slice M9 L2.length cm9)).heap.size) := Lib.hid (by rw [World.size_setCell]; omega)
      clear st11 kb11 ownC11 own11 nb11 G12
      go_upto_region 15 with fail
      generalize w11.setCell ⟨w3.heap.size, 15, none⟩ (.slice M9 L2.length cm9) = w12 at *
      clear kc11 kf11 z11 z9
      have kb9 := Hkb9.out
      have z9 := Hz9.out
      have st9 := Hst9.out
      have own9 := Hown9.out
      have nb9 := Hnb9.out
      have ownM := HownM
      clear Hkb9 Hz9 Hst9 Hown9 Hnb9 HownM
      have hat9 : ScrAt w12 (w6.heap.size + 1) w12.heap.size T C8 cc8 M9 cm9 := by
        rw [HT.out]
        exact ⟨Sl.of_own own9, Sl.of_own ownM.out⟩
      have hTl : T.Len := by rw [HT.out]; exact ⟨by show L1.length ≤ _; omega, by show L2.length ≤ _; omega⟩
      have HDF2 := HDF.out w12 st9.1 _ _ _ _ _ _ hat9 (Nat.le_refl _) hTl
      rw [HT.out] at HDF2
      simp only at HDF2
      have HDF3 := Lib.hid HDF2
      clear HDF HDF2 hat9 hTl
      have HB2 := HB.out
      have kz9 := bs16 kb9 rfl
      have kst := bs16 st9.2.1 rfl
      go_wp2_with (first | ((with_reducible refine wpList_ld2 kst ?_ ?_); rfl) | ((with_reducible refine wpList_ld2 kz9 ?_ ?_); rfl))
      refine HDF3.out.mono ?_
      rintro e w10 ⟨A10, c10, rfl, own10, b10⟩
      have st10 := st9.later b10
      have kb10 := kb9.later b10
      have nb10 := nb9.below b10 (by omega) (by omega)
      have ownC := own_below own9 b10 (Nat.le_refl _)
      have ownM2 := Lib.hid (own_below ownM.out b10 (Nat.le_refl _))
      have hd10 := HDD.out.below st10.1 hup2
      have z10 := b10.size
      have HEQ := Lib.hid (equal_any (Sl.of_own own10) hd10)
      clear st9 kb9 nb9 own9 ownM b10 HDF3 own10 hd10
      obtain ⟨D1, D2⟩ := DD
      simp only at HB2 HEQ ⊢
      obtain ⟨A11, n11, c11, nk, ns⟩ := nb10
      have nkr := nk.rules
      obtain ⟨nc, nf⟩ := nkr
      have an1 := addr_add w6.heap.size 0 1
      go_upto_region 16 with fail
      go_cut [118] (fun s118 wx => ∃ q : Bool, s118 = .bool q ∧ Hid (q = B) ∧ w10 = wx)
      case first =>
        cases l2
        rotate_left
        · have hBt : true = B := by rw [← HB2]; rfl
          have HBt := Lib.hid hBt
          clear HEQ HB2 hBt
          go_wp2_with fail
          go_meet
          exact ⟨true, rfl, HBt, rfl⟩
        · by_cases he : D2 = 0
          rotate_left
          · have hBt : true = B := by rw [← HB2]; simp [he]
            have de1 : (D2 == 0) = false := by simpa using he
            have de2 : (D2 != 0) = true := by simp [he]
            have HBt := Lib.hid hBt
            clear HEQ HB2 he hBt
            go_wp2_with fail
            go_meet
            exact ⟨true, rfl, HBt, rfl⟩
          · subst he
            have hBt : (!decide (D1 = d)) = B := by rw [← HB2]; simp
            have HBt := Lib.hid hBt
            clear HB2 hBt
            go_wp2_with fail
            refine HEQ.out.mono ?_
            rintro e w11 ⟨rfl, rfl⟩
            generalize decide (D1 = d) = dq at *
            go_wp2_with fail
            go_meet
            exact ⟨_, rfl, HBt, rfl⟩
      case rest =>
        obtain ⟨q, rfl, hq, rfl⟩ := hcut
        have hqB := hq.out
        clear nc nf nk ns HEQ hq HB2
        subst hqB
        cases q
        · try simp only [cond_false]
          obtain ⟨bbx, -, bz1, bz2⟩ := st10
          obtain ⟨W4, hst, B4, hgr, hz4⟩ := scr_st bz1 rfl #[.int .i64 x0, .int .i64 x1, .slice C8 L1.length cc8, .int .i64 x2, .int .i64 x3, .int .i64 x4, .int .i64 x5, .int .i64 x6, .bool (oBit x7 0), .bool (oBit x7 1), .bool (oBit x7 2), .bool true, .int .i64 x8, .int .i64 x9, .int .i64 x10, .slice M9 L2.length cm9] rfl rfl
          have bb4 := bbx.grown hgr (by have := bz1.lt; omega) (fun k e => by cases e; omega)
          have ownC4 := own_keep ownC hgr (by omega)
          have ownM4 := own_keep ownM2.out hgr (by omega)
          have HT2 := HT.out
          clear bz1 bz2 bbx hgr ownC ownM2 HT HB
          subst HT2
          have kz10 := bs16 kb10 rfl
          go_wp2_with (first | ((with_reducible refine wpList_ld2 kz10 ?_ ?_); rfl) | ((with_reducible refine wpList_st2 hst ?_ ?_); exact ⟨rfl, rfl⟩))
          exact bodyPost_ret (results_cell2 rfl _ rfl B4 rfl) rfl ⟨C8, cc8, M9, cm9, rfl, own_more ownC4 (by omega), own_more ownM4 (by omega), bb4⟩
        · try simp only [cond_true]
          clear kb10 ownC ownM2 HT HB
          obtain ⟨bbx, -, bz1, bz2⟩ := st10
          obtain ⟨W4, hst, B, hgr, hz4⟩ := scr_st bz1 rfl #[.int .i64 0, .int .i64 0, .slice none 0 0, .int .i64 0, .int .i64 0, .int .i64 0, .int .i64 0, .int .i64 0, .bool false, .bool false, .bool false, .bool false, .int .i64 0, .int .i64 0, .int .i64 0, .slice none 0 0] rfl rfl
          have bb4 := bbx.grown hgr (by have := bz1.lt; omega) (fun k e => by cases e; omega)
          have kz2 := bs16 bz2 rfl
          clear bz1 bz2 bbx hgr
          go_wp2_with (first | ((with_reducible refine wpList_ld2 kz2 ?_ ?_); rfl) | ((with_reducible refine wpList_st2 hst ?_ ?_); exact ⟨rfl, rfl⟩))
          exact bodyPost_ret (results_cell2 rfl _ rfl B rfl) rfl ⟨none, 0, none, 0, rfl, World.ownsRow_nil _ _ _ _, World.ownsRow_nil _ _ _ _, bb4⟩
end Go.Proofs.Ytfeeincglijmjaa
