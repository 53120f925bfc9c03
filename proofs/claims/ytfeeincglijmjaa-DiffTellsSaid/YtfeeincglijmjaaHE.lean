/- Texts of this seat, one behind the other. -/
import Derived.Test.YtfeeincglijmjaaZB13
import Derived.Test.YtfeeincglijmjaaEG
import Derived.Deep.RegionHeld3
namespace Go.Proofs.Ytfeeincglijmjaa
open Go.RowKit
set_option linter.unusedVariables false
set_option linter.unusedSimpArgs false
attribute [local go_sem ↓] Go.wp_at_zero Go.wp_at_succ

/-- What the walk carries: Apply's screen and its result's place, the screen that is made, the numbers. -/
def CSt (w : World) (ca : Array Value) (lo up g : Nat) (A : Option Addr) (n c : Nat) (L : List Int) (cs : Array Value) (W : World) : Prop :=
  BSt w ca W ∧ Blk W g 35 cs ∧ Sl W lo up 1 A n c (intCells L) ∧ up ≤ g ∧ w.heap.size + 2 ≤ g
section
variable {w W W' : World} {ca cs : Array Value} {lo up g n c : Nat} {A : Option Addr} {L : List Int}
theorem CSt.set_ (h : CSt w ca lo up g A n c L cs W) (i : Nat) (u : Value) : CSt w ca lo up g A n c L (cs.setIfInBounds i u) (W.setCell ⟨g, i, none⟩ u) := by
  obtain ⟨h1, h2, h3, h4, h5⟩ := h
  have G := grownBy_setCells g [u] i W
  exact ⟨h1.grown G h5, h2.set_ i u, h3.grown G (by have := h2.lt; omega) (fun k e => by cases e; exact .inr h4), h4, h5⟩
theorem CSt.later (h : CSt w ca lo up g A n c L cs W) (hb : Below W.heap.size W W') : CSt w ca lo up g A n c L cs W' := by
  obtain ⟨h1, h2, h3, h4, h5⟩ := h
  exact ⟨h1.later hb, h2.later hb, h3.below hb (by have := h2.lt; omega), h4, h5⟩
end
/-- What numbers make of a screen, as the document says. -/
def rTry (s : Scr) (x0 x1 x2 x3 x4 x5 x6 x7 x8 x9 x10 : Int) (r : List Int) : Scr :=
  ⟨x0, x1, x2, x3, x4, x5, x6, oBit x7 0, oBit x7 1, oBit x7 2, oBit x7 3, x8, x9, x10, (rChg (dGround s x0 x1).1 r).1, if oBit x7 3 then (rChg (dGround s x0 x1).2 (rChg (dGround s x0 x1).1 r).2).1 else []⟩
theorem oBit_of {x : Int} (h : 0 ≤ x) : (x.tmod 2 == 1) = oBit x 0 ∧ ((x.tdiv 2).tmod 2 == 1) = oBit x 1 ∧ ((x.tdiv 4).tmod 2 == 1) = oBit x 2 ∧ ((x.tdiv 8).tmod 2 == 1) = oBit x 3 := by
  unfold oBit
  rw [Int.tdiv_eq_ediv_of_nonneg h, Int.tdiv_eq_ediv_of_nonneg h, Int.tdiv_eq_ediv_of_nonneg h, Int.tmod_eq_emod_of_nonneg h, Int.tmod_eq_emod_of_nonneg (by omega), Int.tmod_eq_emod_of_nonneg (by omega), Int.tmod_eq_emod_of_nonneg (by omega)]
  refine ⟨?_, ?_, ?_, ?_⟩ <;> (rw [Bool.eq_iff_iff]; simp)

set_option maxHeartbeats 16000000 in
set_option maxRecDepth 100000 in
theorem rapply_go {lo up lo2 up2 : Nat} {s : Scr} {C M D : Option Addr} {cc cm dc : Nat} {d : List UInt8} {w : World} (hat : ScrAt w lo up s C cc M cm) (hup : up ≤ w.heap.size) (hd : Sl w lo2 up2 1 D d.length dc (byteCells d)) (hup2 : up2 ≤ w.heap.size) (hl : s.Len) {x0 x1 x2 x3 x4 x5 x6 x7 x8 x9 x10 : Int} {r : List Int} (h : gOk s = true) (hsl : s.cs.length ≤ 4096 ∧ s.ms.length ≤ 4096) (hdl : d.length ≤ 1000000) (hq : vAll d = (x0 :: x1 :: x2 :: x3 :: x4 :: x5 :: x6 :: x7 :: x8 :: x9 :: x10 :: r, 0)) (h0 : 1 ≤ x0 ∧ x0 ≤ 64) (h1 : 1 ≤ x1 ∧ x1 ≤ 64) (hr : ∀ x ∈ r, 0 ≤ x ∧ x ≤ 4611686018427387903) (hr1 : 1 ≤ r.length) (hrl : r.length ≤ 1000000) (h7 : 0 ≤ x7 ∧ x7 ≤ 4611686018427387903)
    {T : Scr} (hT : T = rTry s x0 x1 x2 x3 x4 x5 x6 x7 x8 x9 x10 r) {B : Bool} (hB : (!decide ((dDiff' s T).2 = 0) || !decide ((dDiff' s T).1 = d)) = B) {Rs : Scr} {Re : Int} (hRs : Rs = bif B then noScr else T) (hRe : Re = bif B then 190 else 0) :
    Calls Try.prog 28 #[.agg (s.v C cc M cm), .slice D d.length dc] w (RetAp w Rs Re) := by
  have HRs := Lib.hid hRs
  have HRe := Lib.hid hRe
  clear hRs hRe
  obtain ⟨i0, hi0, hz0, hz1, hz2⟩ := info_parts info3
  have HC := Lib.hid (fun W (b : Below w.heap.size w W) => rcheck_ok (hat.below b hup) (Nat.le_trans hup b.size) hl h)
  have hG := gr_len s x0 x1 (by omega) (by omega) hsl
  have HG := Lib.hid (fun W (b : Below w.heap.size w W) => rgrounds_any (a := x0) (b := x1) (hat.below b hup) (Nat.le_trans hup b.size) (area0 (by omega) (by omega)))
  have HDF := Lib.hid (fun W (b : Below w.heap.size w W) lo2 up2 C2 cc2 M2 cm2 (hat2 : ScrAt W lo2 up2 T C2 cc2 M2 cm2) (hup2 : up2 ≤ W.heap.size) (hl2 : T.Len) => rdiff_any (hat.below b hup) (Nat.le_trans hup b.size) hat2 hup2 hl hl2)
  have HDD := Lib.hid hd
  generalize hDD : dDiff' s T = DD at *
  clear hDD
  unfold rTry at hT
  generalize dGround s x0 x1 = GG at *
  obtain ⟨G1, G2⟩ := GG
  simp only at hT hB hG
  have hs16 := Scr.v_size s C cc M cm
  generalize s.v C cc M cm = ca at *
  clear hat hl h hsl
  have HA := Lib.hid (fun W (b : Below w.heap.size w W) => rall_any (hd.below b hup2) (Nat.le_trans hup2 b.size) hdl)
  rw [hq] at HA
  clear hq hd
  have HR0 := Lib.hid hr
  have HB := Lib.hid hB
  have HT := Lib.hid hT
  clear hr hB hT
  have st0 := BSt.new w ca
  unfold zero16 at st0
  go_enter Try.func28, Try.ntmps28
  go_upto_region 1 with fail
  generalize hW0 : (w.alloc (.cells ca 35)).alloc (.cells #[.int .i64 0, .int .i64 0, .slice none 0 0, .int .i64 0, .int .i64 0, .int .i64 0, .int .i64 0, .int .i64 0, .bool false, .bool false, .bool false, .bool false, .int .i64 0, .int .i64 0, .int .i64 0, .slice none 0 0] 35) = W0 at *
  clear hW0
  have kst := bs16 st0.2.1 hs16
  go_wp2_with (((with_reducible refine wpList_ld2 kst ?_ ?_); rfl))
  refine (HC.out _ st0.1).mono ?_
  rintro e w1 ⟨rfl, b1⟩
  have st1 := st0.later b1
  clear b1 st0 kst HC
  go_wp2_with fail
  refine (HA.out _ st1.1).mono ?_
  rintro e w2 ⟨A, c, rfl, hown, b2⟩
  have st2 := st1.later b2
  have sl := Sl.of_own hown
  have z2 := st2.lt
  clear b2 st1 HA hown
  obtain ⟨b, o, rfl, hb1, hb2, hc⟩ := sl.at_ (by simp)
  have k0 : w2.cell? ⟨b, o, none⟩ = some (.int .i64 x0) := by have := hc 0 (by simp [intCells]); simpa [intCells] using this
  have k1 : w2.cell? ⟨b, o + 1, none⟩ = some (.int .i64 x1) := by have := hc 1 (by simp [intCells]); simpa [intCells] using this
  have k2 : w2.cell? ⟨b, o + 2, none⟩ = some (.int .i64 x2) := by have := hc 2 (by simp [intCells]); simpa [intCells] using this
  have k3 : w2.cell? ⟨b, o + 3, none⟩ = some (.int .i64 x3) := by have := hc 3 (by simp [intCells]); simpa [intCells] using this
  have k4 : w2.cell? ⟨b, o + 4, none⟩ = some (.int .i64 x4) := by have := hc 4 (by simp [intCells]); simpa [intCells] using this
  have k5 : w2.cell? ⟨b, o + 5, none⟩ = some (.int .i64 x5) := by have := hc 5 (by simp [intCells]); simpa [intCells] using this
  have k6 : w2.cell? ⟨b, o + 6, none⟩ = some (.int .i64 x6) := by have := hc 6 (by simp [intCells]); simpa [intCells] using this
  have k7 : w2.cell? ⟨b, o + 7, none⟩ = some (.int .i64 x7) := by have := hc 7 (by simp [intCells]); simpa [intCells] using this
  have k8 : w2.cell? ⟨b, o + 8, none⟩ = some (.int .i64 x8) := by have := hc 8 (by simp [intCells]); simpa [intCells] using this
  have k9 : w2.cell? ⟨b, o + 9, none⟩ = some (.int .i64 x9) := by have := hc 9 (by simp [intCells]); simpa [intCells] using this
  have k10 : w2.cell? ⟨b, o + 10, none⟩ = some (.int .i64 x10) := by have := hc 10 (by simp [intCells]); simpa [intCells] using this
  have a1 := addr_add b o 1
  have a2 := addr_add b o 2
  have a3 := addr_add b o 3
  have a4 := addr_add b o 4
  have a5 := addr_add b o 5
  have a6 := addr_add b o 6
  have a7 := addr_add b o 7
  have a8 := addr_add b o 8
  have a9 := addr_add b o 9
  have a10 := addr_add b o 10
  have hbd := fun (w : World) => run_build (P := Try.prog) w 35 #[(0, .int .i64 x0), (1, .int .i64 x1), (3, .int .i64 x2), (4, .int .i64 x3), (5, .int .i64 x4), (6, .int .i64 x5), (7, .int .i64 x6), (12, .agg #[.int .i64 x8, .int .i64 x9, .int .i64 x10])] #[.int .i64 x0, .int .i64 x1, .slice none 0 0, .int .i64 x2, .int .i64 x3, .int .i64 x4, .int .i64 x5, .int .i64 x6, .bool false, .bool false, .bool false, .bool false, .int .i64 x8, .int .i64 x9, .int .i64 x10, .slice none 0 0] (by kernel_rfl)
  have hle := sl.le
  simp only [List.length_cons] at *
  obtain ⟨N, hN⟩ : ∃ N, N = r.length + 1 + 1 + 1 + 1 + 1 + 1 + 1 + 1 + 1 + 1 + 1 := ⟨_, rfl⟩
  have hN12 : 12 ≤ N := by omega
  rw [← hN] at sl hle ⊢
  have HN := Lib.hid hN
  have HSL := Lib.hid sl
  have hd1 : ¬ ((N : Int) < 12) := by omega
  have hn0 : (0 : Int) < N := by omega
  have hn1 : (1 : Int) < N := by omega
  have hn2 : (2 : Int) < N := by omega
  have hn3 : (3 : Int) < N := by omega
  have hn4 : (4 : Int) < N := by omega
  have hn5 : (5 : Int) < N := by omega
  have hn6 : (6 : Int) < N := by omega
  have hn7 : (7 : Int) < N := by omega
  have hn8 : (8 : Int) < N := by omega
  have hn9 : (9 : Int) < N := by omega
  have hn10 : (10 : Int) < N := by omega
  have hn00 : 0 < N := by omega
  have hn01 : 1 < N := by omega
  have hd3 : ¬ (x0 < 1) := by omega
  have hd4 : ¬ (x1 < 1) := by omega
  have hd5 : ¬ (64 < x0) := by omega
  have hd6 : ¬ (64 < x1) := by omega
  clear hc hN sl
  go_upto_region 6 with fail
  go_cut [8] (fun s8 wx => ∃ u, u = wx ∧ s8 = .pointer (some ⟨w2.heap.size, 0, none⟩) ∧ Below w2.heap.size w2 u ∧ Blk u w2.heap.size 35 #[.int .i64 x0, .int .i64 x1, .slice none 0 0, .int .i64 x2, .int .i64 x3, .int .i64 x4, .int .i64 x5, .int .i64 x6, .bool false, .bool false, .bool false, .bool false, .int .i64 x8, .int .i64 x9, .int .i64 x10, .slice none 0 0])
  case first =>
    clear hd1 hd3 hd4 hd5 hd6
    have hS : ∀ ob : Obj, (fun w' : World => w'.cell? ⟨b, o, none⟩ = some (.int .i64 x0) ∧ w'.cell? ⟨b, o + 1, none⟩ = some (.int .i64 x1) ∧ w'.cell? ⟨b, o + 2, none⟩ = some (.int .i64 x2) ∧ w'.cell? ⟨b, o + 3, none⟩ = some (.int .i64 x3) ∧ w'.cell? ⟨b, o + 4, none⟩ = some (.int .i64 x4) ∧ w'.cell? ⟨b, o + 5, none⟩ = some (.int .i64 x5) ∧ w'.cell? ⟨b, o + 6, none⟩ = some (.int .i64 x6) ∧ w'.cell? ⟨b, o + 8, none⟩ = some (.int .i64 x8) ∧ w'.cell? ⟨b, o + 9, none⟩ = some (.int .i64 x9) ∧ w'.cell? ⟨b, o + 10, none⟩ = some (.int .i64 x10)) (w2.drew.alloc ob) := fun ob => ⟨(World.cell?_alloc_lt _ _ _ (by exact hb2)).trans k0, (World.cell?_alloc_lt _ _ _ (by exact hb2)).trans k1, (World.cell?_alloc_lt _ _ _ (by exact hb2)).trans k2, (World.cell?_alloc_lt _ _ _ (by exact hb2)).trans k3, (World.cell?_alloc_lt _ _ _ (by exact hb2)).trans k4, (World.cell?_alloc_lt _ _ _ (by exact hb2)).trans k5, (World.cell?_alloc_lt _ _ _ (by exact hb2)).trans k6, (World.cell?_alloc_lt _ _ _ (by exact hb2)).trans k8, (World.cell?_alloc_lt _ _ _ (by exact hb2)).trans k9, (World.cell?_alloc_lt _ _ _ (by exact hb2)).trans k10⟩
    clear HG HDF HDD HR0 HB HT st2 HSL
    go_region_held3 (fun w' : World => w'.cell? ⟨b, o, none⟩ = some (.int .i64 x0) ∧ w'.cell? ⟨b, o + 1, none⟩ = some (.int .i64 x1) ∧ w'.cell? ⟨b, o + 2, none⟩ = some (.int .i64 x2) ∧ w'.cell? ⟨b, o + 3, none⟩ = some (.int .i64 x3) ∧ w'.cell? ⟨b, o + 4, none⟩ = some (.int .i64 x4) ∧ w'.cell? ⟨b, o + 5, none⟩ = some (.int .i64 x5) ∧ w'.cell? ⟨b, o + 6, none⟩ = some (.int .i64 x6) ∧ w'.cell? ⟨b, o + 8, none⟩ = some (.int .i64 x8) ∧ w'.cell? ⟨b, o + 9, none⟩ = some (.int .i64 x9) ∧ w'.cell? ⟨b, o + 10, none⟩ = some (.int .i64 x10)) (first | exact ⟨k0, k1, k2, k3, k4, k5, k6, k8, k9, k10⟩ | exact hS _) (fail)
    all_goals (go_wp2_with fail; go_meet)
    all_goals exact ⟨_, rfl, rfl, (Below.refl _ w2).drew.alloc (Nat.le_refl _) _, Blk.new _ 35 _ rfl⟩
  case rest =>
    obtain ⟨wx, hwx, rfl, b4, kb4⟩ := hcut
    subst hwx
    clear hbd hd1 hd3 hd4 hd5 hd6 k0 k1 k2 k3 k4 k5 k6 k7 k8 k9 k10
    have st4 : CSt w ca w1.heap.size w2.heap.size w2.heap.size (some ⟨b, o, none⟩) N c _ #[.int .i64 x0, .int .i64 x1, .slice none 0 0, .int .i64 x2, .int .i64 x3, .int .i64 x4, .int .i64 x5, .int .i64 x6, .bool false, .bool false, .bool false, .bool false, .int .i64 x8, .int .i64 x9, .int .i64 x10, .slice none 0 0] wx := ⟨st2.later b4, kb4, HSL.out.below b4 (Nat.le_refl _), Nat.le_refl _, z2⟩
    have hbg : ¬ (b = w2.heap.size) := by omega
    have hgb : ¬ (w2.heap.size = b) := by omega
    clear st2 HSL b4 kb4
    generalize w2.heap.size = g at *
    have hl7 : ∀ (cs : Array Value) (W : World), CSt w ca w1.heap.size g g (some ⟨b, o, none⟩) N c (x0 :: x1 :: x2 :: x3 :: x4 :: x5 :: x6 :: x7 :: x8 :: x9 :: x10 :: r) cs W → W.cell? ⟨b, o + 7, none⟩ = some (.int .i64 x7) := by
      intro cs W h
      obtain ⟨b', o', e, _, _, hc⟩ := h.2.2.1.at_ (by omega)
      injection e with e
      injection e with e1 e2
      subst e1 e2
      have := hc 7 (by simp [intCells])
      simpa [intCells] using this
    have Hl7 := Lib.hid hl7
    clear hl7
    obtain ⟨ob0, ob1, ob2, ob3⟩ := oBit_of h7.1
    have e2 : x7.tdiv 2 = x7 / 2 := Int.tdiv_eq_ediv_of_nonneg h7.1
    have e4 : x7.tdiv 4 = x7 / 4 := Int.tdiv_eq_ediv_of_nonneg h7.1
    have e8 : x7.tdiv 8 = x7 / 8 := Int.tdiv_eq_ediv_of_nonneg h7.1
    have m0 : x7.tmod 2 = x7 % 2 := Int.tmod_eq_emod_of_nonneg h7.1
    have m2 : (x7 / 2).tmod 2 = x7 / 2 % 2 := Int.tmod_eq_emod_of_nonneg (by omega)
    have m4 : (x7 / 4).tmod 2 = x7 / 4 % 2 := Int.tmod_eq_emod_of_nonneg (by omega)
    have m8 : (x7 / 8).tmod 2 = x7 / 8 % 2 := Int.tmod_eq_emod_of_nonneg (by omega)
    rw [m0] at ob0
    rw [e2, m2] at ob1
    rw [e4, m4] at ob2
    rw [e8, m8] at ob3
    have r0 : 0 ≤ x7 / 2 ∧ x7 / 2 ≤ 4611686018427387903 := by omega
    have r1 : 0 ≤ x7 / 4 ∧ x7 / 4 ≤ 4611686018427387903 := by omega
    have r2 : 0 ≤ x7 / 8 ∧ x7 / 8 ≤ 4611686018427387903 := by omega
    have q0 : 0 ≤ x7 % 2 ∧ x7 % 2 ≤ 1 := by omega
    have q1 : 0 ≤ x7 / 2 % 2 ∧ x7 / 2 % 2 ≤ 1 := by omega
    have q2 : 0 ≤ x7 / 4 % 2 ∧ x7 / 4 % 2 ≤ 1 := by omega
    have q3 : 0 ≤ x7 / 8 % 2 ∧ x7 / 8 % 2 ≤ 1 := by omega
    generalize x7 % 2 = y0 at *
    generalize x7 / 2 % 2 = y1 at *
    generalize x7 / 4 % 2 = y2 at *
    generalize x7 / 8 % 2 = y3 at *
    generalize x7 / 2 = v1 at *
    generalize x7 / 4 = v2 at *
    generalize x7 / 8 = v3 at *
    generalize oBit x7 0 = b0 at *
    generalize oBit x7 1 = b1 at *
    generalize oBit x7 2 = b2 at *
    generalize oBit x7 3 = b3 at *
    have ab1 := addr_add g 0 1
    have ab2 := addr_add g 0 2
    have ab8 := addr_add g 0 8
    have ab9 := addr_add g 0 9
    have ab10 := addr_add g 0 10
    have ab11 := addr_add g 0 11
    have ab15 := addr_add g 0 15
    have k7 := Hl7.out _ _ st4
    have kr := st4.2.1.rules
    obtain ⟨kc, kf⟩ := kr
    have st5 : Hid (CSt w ca w1.heap.size g g (some ⟨b, o, none⟩) N c _ #[.int .i64 x0, .int .i64 x1, .slice none 0 0, .int .i64 x2, .int .i64 x3, .int .i64 x4, .int .i64 x5, .int .i64 x6, .bool b0, .bool false, .bool false, .bool false, .int .i64 x8, .int .i64 x9, .int .i64 x10, .slice none 0 0] (wx.setCell ⟨g, 8, none⟩ (.bool b0))) := Lib.hid (st4.set_ 8 (.bool b0))
    clear st4
    go_upto_region 8 with fail
    clear k7 kc kf
    generalize wx.setCell ⟨g, 8, none⟩ (.bool b0) = w5 at *
    have st4 := st5.out
    clear st5
    have k7 := Hl7.out _ _ st4
    have kr := st4.2.1.rules
    obtain ⟨kc, kf⟩ := kr
    have st5 : Hid (CSt w ca w1.heap.size g g (some ⟨b, o, none⟩) N c _ #[.int .i64 x0, .int .i64 x1, .slice none 0 0, .int .i64 x2, .int .i64 x3, .int .i64 x4, .int .i64 x5, .int .i64 x6, .bool b0, .bool b1, .bool false, .bool false, .int .i64 x8, .int .i64 x9, .int .i64 x10, .slice none 0 0] (w5.setCell ⟨g, 9, none⟩ (.bool b1))) := Lib.hid (st4.set_ 9 (.bool b1))
    clear st4
    go_upto_region 9 with fail
    clear k7 kc kf
    generalize w5.setCell ⟨g, 9, none⟩ (.bool b1) = w6 at *
    have st4 := st5.out
    clear st5
    have k7 := Hl7.out _ _ st4
    have kr := st4.2.1.rules
    obtain ⟨kc, kf⟩ := kr
    have st5 : Hid (CSt w ca w1.heap.size g g (some ⟨b, o, none⟩) N c _ #[.int .i64 x0, .int .i64 x1, .slice none 0 0, .int .i64 x2, .int .i64 x3, .int .i64 x4, .int .i64 x5, .int .i64 x6, .bool b0, .bool b1, .bool b2, .bool false, .int .i64 x8, .int .i64 x9, .int .i64 x10, .slice none 0 0] (w6.setCell ⟨g, 10, none⟩ (.bool b2))) := Lib.hid (st4.set_ 10 (.bool b2))
    clear st4
    go_upto_region 10 with fail
    clear k7 kc kf
    generalize w6.setCell ⟨g, 10, none⟩ (.bool b2) = w7 at *
    have st4 := st5.out
    clear st5
    have k7 := Hl7.out _ _ st4
    have kr := st4.2.1.rules
    obtain ⟨kc, kf⟩ := kr
    have st5 : Hid (CSt w ca w1.heap.size g g (some ⟨b, o, none⟩) N c _ #[.int .i64 x0, .int .i64 x1, .slice none 0 0, .int .i64 x2, .int .i64 x3, .int .i64 x4, .int .i64 x5, .int .i64 x6, .bool b0, .bool b1, .bool b2, .bool b3, .int .i64 x8, .int .i64 x9, .int .i64 x10, .slice none 0 0] (w7.setCell ⟨g, 11, none⟩ (.bool b3))) := Lib.hid (st4.set_ 11 (.bool b3))
    clear st4
    go_upto_region 11 with fail
    clear k7 kc kf
    generalize w7.setCell ⟨g, 11, none⟩ (.bool b3) = w8 at *
    have st4 := st5.out
    clear st5
    clear ob0 ob1 ob2 ob3 e2 e4 e8 m0 m2 m4 m8 r0 r1 r2 q0 q1 q2 q3 Hl7
    have kr := st4.2.1.rules
    obtain ⟨kc, kf⟩ := kr
    have kst := bs16 st4.1.2.1 hs16
    go_wp2_with (((with_reducible refine wpList_ld2 kst ?_ ?_); rfl))
    refine (HG.out _ st4.1.1).mono ?_
    rintro e w9 ⟨A1, c1, A2, c2, rfl, sg1, sg2, b9⟩
    have st9 := st4.later b9
    clear st4 b9 kst kc kf HG
    have zg := st9.2.1.lt
    obtain ⟨A3, hcut3, sr⟩ := cut_l Try.underlying88 hi0 hz1 st9.2.2.1 11 r.length (11 : Int) rfl (by have := HN.out; omega)
    have sr : Sl w9 w1.heap.size g 1 A3 r.length (c - 11) (intCells r) := by simpa [intCells] using sr
    have hn11 : (11 : Int) ≤ N := by omega
    have HCH := Lib.hid (rchanged_any (n := r.length) sg1 (Nat.le_refl _) sr (by omega) rfl hrl HR0.out (by omega))
    have hc1 := rChg_len G1 r
    clear sg1 sr
    go_wp2_with fail
    refine HCH.out.mono ?_
    rintro e w10 ⟨C8, cc8, D9, dc9, rfl, own8, sr9, b10⟩
    have HRM := Lib.hid (rChg_len G1 r).2
    have HRB : Hid (∀ x ∈ (rChg G1 r).2, 0 ≤ x ∧ x ≤ 4611686018427387903) := Lib.hid (rChg_bnd G1 r HR0.out)
    obtain ⟨⟨L1, R1⟩, hQ⟩ : ∃ Q, Q = rChg G1 r := ⟨_, rfl⟩
    rw [← hQ] at own8 sr9 HT hc1 HRM HRB ⊢
    simp only at own8 sr9 HT hc1 HRM HRB ⊢
    clear hQ HCH hcut3
    have hl1 : L1.length ≤ 4096 := by omega
    clear hc1
    have st10 := st9.later b10
    have sg2 := sg2.below b10 (Nat.le_refl _)
    have hz9 := b10.size
    clear st9 b10
    have kr := st10.2.1.rules
    obtain ⟨kc, kf⟩ := kr
    have zg10 := st10.2.1.lt
    have G11 := grownBy_setCells g [.slice C8 L1.length cc8] 2 w10
    have st11 : Hid (CSt w ca w1.heap.size g g (some ⟨b, o, none⟩) N c _ #[.int .i64 x0, .int .i64 x1, .slice C8 L1.length cc8, .int .i64 x2, .int .i64 x3, .int .i64 x4, .int .i64 x5, .int .i64 x6, .bool b0, .bool b1, .bool b2, .bool b3, .int .i64 x8, .int .i64 x9, .int .i64 x10, .slice none 0 0] (w10.setCell ⟨g, 2, none⟩ (.slice C8 L1.length cc8))) := Lib.hid (st10.set_ 2 (.slice C8 L1.length cc8))
    have own11 := Lib.hid (own_keep own8 (show w10.grownBy (w10.setCell ⟨g, 2, none⟩ (.slice C8 L1.length cc8)) (some g) from G11) (by omega))
    have sr11 := Lib.hid (sr9.grown (show w10.grownBy (w10.setCell ⟨g, 2, none⟩ (.slice C8 L1.length cc8)) (some g) from G11) (by omega) (fun k e => by cases e; exact .inr (Nat.le_refl _)))
    have sg11 := Lib.hid (sg2.setOdd (p := ⟨g, 2, none⟩) (kc 2) (fun x e => by cases e) (.slice C8 L1.length cc8))
    have hz11 : Hid (w9.heap.size ≤ (w10.setCell ⟨g, 2, none⟩ (.slice C8 L1.length cc8)).heap.size) := Lib.hid (Nat.le_trans hz9 G11.size)
    clear st10 own8 sr9 sg2 G11
    go_upto_region 14 with fail
    clear kc kf
    generalize w10.setCell ⟨g, 2, none⟩ (.slice C8 L1.length cc8) = w11 at *
    have st11 := st11.out
    have own11 := own11.out
    have hz11 := hz11.out
    have kr := st11.2.1.rules
    obtain ⟨kc, kf⟩ := kr
    cases b3
    · simp only [Bool.false_eq_true, if_false] at HT
      clear sr11 sg11 HRM HRB
      go_upto_region 17 with fail
      clear kc kf
      have hatT : ScrAt w11 0 w11.heap.size T C8 cc8 none 0 := by
        rw [HT.out]
        exact ⟨(Sl.of_own own11).more (Nat.zero_le _) (Nat.le_refl _), Sl.empty _ _ _ _⟩
      have hTl : T.Len := by rw [HT.out]; exact ⟨by show L1.length ≤ _; omega, by show ([] : List (Int × Int)).length ≤ _; simp⟩
      have HDF2 := HDF.out w11 st11.1.1 _ _ _ _ _ _ hatT (Nat.le_refl _) hTl
      have hcv : T.v C8 cc8 none 0 = #[.int .i64 x0, .int .i64 x1, .slice C8 L1.length cc8, .int .i64 x2, .int .i64 x3, .int .i64 x4, .int .i64 x5, .int .i64 x6, .bool b0, .bool b1, .bool b2, .bool false, .int .i64 x8, .int .i64 x9, .int .i64 x10, .slice none 0 0] := by rw [HT.out]; rfl
      rw [hcv] at HDF2
      have HDF3 := Lib.hid HDF2
      clear HDF HDF2 hatT hTl hcv
      have kz9 := bs16 st11.2.1 rfl
      have kst := bs16 st11.1.2.1 hs16
      go_wp2_with (first | ((with_reducible refine wpList_ld2 kst ?_ ?_); rfl) | ((with_reducible refine wpList_ld2 kz9 ?_ ?_); rfl))
      refine HDF3.out.mono ?_
      rintro e w20 ⟨A20, c20, rfl, own20, b20⟩
      have st20 := st11.later b20
      have ownC := own_below own11 b20 (Nat.le_refl _)
      have ownM20 := Lib.hid (own_below (World.ownsRow_nil w11 w9.heap.size 64 2) b20 (Nat.le_refl _))
      have hd20 := HDD.out.below st20.1.1 hup2
      have z20 := b20.size
      have c1 := run_string_of (Sl.of_own own20) Try.underlying23 Try.underlying5 Try.underlying9
      have c2 := run_string_of hd20 Try.underlying23 Try.underlying5 Try.underlying9
      clear st11 own11 b20 HDF3 own20 hd20 kz9 kst
      obtain ⟨D1, D2⟩ := DD
      have HB2 := HB.out
      simp only at HB2 c1 ⊢
      go_upto_region 18 with fail
      go_cut [159] (fun s159 wx => ∃ q : Bool, s159 = .bool q ∧ Hid (q = B) ∧ w20 = wx)
      case first =>
        by_cases he : D2 = 0
        rotate_left
        · have hBt : true = B := by rw [← HB2]; simp [he]
          have de1 : (D2 == 0) = false := by simpa using he
          have de2 : (D2 != 0) = true := by simp [he]
          have HBt := Lib.hid hBt
          clear HB2 he hBt c1 c2
          go_wp2_with fail
          go_meet
          exact ⟨true, rfl, HBt, rfl⟩
        · subst he
          have hBt : (!(D1 == d)) = B := by rw [← HB2, show (D1 == d) = decide (D1 = d) from by rw [Bool.eq_iff_iff]; simp]; simp
          have HBt := Lib.hid hBt
          clear HB2 hBt
          go_wp2_with fail
          go_meet
          exact ⟨_, rfl, Lib.hid (HBt.out ▸ rfl), rfl⟩
      case rest =>
        obtain ⟨q, rfl, hq, rfl⟩ := hcut
        have hqB := hq.out
        clear c1 c2 hq HB2 HB
        subst hqB
        have hRs := HRs.out
        have hRe := HRe.out
        clear HRs HRe
        cases q
        · simp only [cond_false] at hRs hRe
          subst hRs hRe
          obtain ⟨⟨bbx, -, bz1⟩, kb20, -, -, -⟩ := st20
          obtain ⟨W4, hst, B4, hgr, hz4⟩ := scr_st bz1 rfl #[.int .i64 x0, .int .i64 x1, .slice C8 L1.length cc8, .int .i64 x2, .int .i64 x3, .int .i64 x4, .int .i64 x5, .int .i64 x6, .bool b0, .bool b1, .bool b2, .bool false, .int .i64 x8, .int .i64 x9, .int .i64 x10, .slice none 0 0] rfl rfl
          have bb4 := bbx.grown hgr (by have := bz1.lt; omega) (fun k e => by cases e; omega)
          have ownC4 := own_keep ownC hgr (by omega)
          have ownM4 := own_keep ownM20.out hgr (by omega)
          have HT2 := HT.out
          clear bz1 bbx hgr ownC ownM20 HT
          subst HT2
          have kz10 := bs16 kb20 rfl
          go_upto_region 20 with fail
          iterate 10 (first | ((with_reducible refine wpList_ld2 kz10 ?_ ?_); rfl) | ((with_reducible refine wpList_st2 hst ?_ ?_); exact ⟨rfl, rfl⟩) | go_values | go_skip | go_guarded | go_step | go_upon | go_back)
          refine bodyPost_ret (v := .tuple #[.agg #[.int .i64 x0, .int .i64 x1, .slice C8 L1.length cc8, .int .i64 x2, .int .i64 x3, .int .i64 x4, .int .i64 x5, .int .i64 x6, .bool b0, .bool b1, .bool b2, .bool false, .int .i64 x8, .int .i64 x9, .int .i64 x10, .slice none 0 0], .int .i64 0]) ?_ ?_ ?_
          · exact results_cell2 (t := 4) (u := 5) rfl _ rfl B4 rfl
          · rfl
          · exact ⟨C8, cc8, none, 0, rfl, own_more ownC4 (by omega), own_more ownM4 (by omega), bb4⟩
        · simp only [cond_true] at hRs hRe
          subst hRs hRe
          clear ownC ownM20 HT
          obtain ⟨⟨bbx, -, bz1⟩, -, -, -, -⟩ := st20
          obtain ⟨W4, hst, B, hgr, hz4⟩ := scr_st bz1 rfl #[.int .i64 0, .int .i64 0, .slice none 0 0, .int .i64 0, .int .i64 0, .int .i64 0, .int .i64 0, .int .i64 0, .bool false, .bool false, .bool false, .bool false, .int .i64 0, .int .i64 0, .int .i64 0, .slice none 0 0] rfl rfl
          have bb4 := bbx.grown hgr (by have := bz1.lt; omega) (fun k e => by cases e; omega)
          clear bz1 bbx hgr
          go_upto_region 19 with fail
          iterate 13 (first | (with_reducible refine wpList_st2 hst ?_ ?_; exact ⟨rfl, rfl⟩) | go_values | go_skip | go_guarded | go_step | go_upon | go_back)
          refine bodyPost_ret (v := .tuple #[.agg #[.int .i64 0, .int .i64 0, .slice none 0 0, .int .i64 0, .int .i64 0, .int .i64 0, .int .i64 0, .int .i64 0, .bool false, .bool false, .bool false, .bool false, .int .i64 0, .int .i64 0, .int .i64 0, .slice none 0 0], .int .i64 190]) ?_ ?_ ?_
          · exact results_cell2 (t := 4) (u := 5) rfl _ rfl B rfl
          · rfl
          · exact ⟨none, 0, none, 0, rfl, World.ownsRow_nil _ _ _ _, World.ownsRow_nil _ _ _ _, bb4⟩
    · simp only [if_true] at HT
      have hz11b := st11.2.1.lt
      have HCH := Lib.hid (rchanged_any (n := R1.length) sg11.out (by omega) sr11.out (by omega) rfl (by have := HRM.out; omega) HRB.out (by omega))
      have hc2 := (rChg_len G2 R1).1
      clear sr11 sg11 HRM HRB
      go_wp2_with fail
      refine HCH.out.mono ?_
      rintro e w12 ⟨M8, cm8, D10, dc10, rfl, ownM, -, b12⟩
      obtain ⟨⟨L2, R2⟩, hQ⟩ : ∃ Q, Q = rChg G2 R1 := ⟨_, rfl⟩
      rw [← hQ] at ownM HT hc2 ⊢
      simp only at ownM HT hc2 ⊢
      clear hQ HCH kc kf
      have hl2 : L2.length ≤ 4096 := by omega
      clear hc2
      have own12 := own_below own11 b12 (Nat.le_refl _)
      have st12 := st11.later b12
      have hz12 := b12.size
      clear st11 own11 b12
      have kr := st12.2.1.rules
      obtain ⟨kc, kf⟩ := kr
      have G13 := grownBy_setCells g [.slice M8 L2.length cm8] 15 w12
      have zg12 := st12.2.1.lt
      have st13 : Hid (CSt w ca w1.heap.size g g (some ⟨b, o, none⟩) N c _ #[.int .i64 x0, .int .i64 x1, .slice C8 L1.length cc8, .int .i64 x2, .int .i64 x3, .int .i64 x4, .int .i64 x5, .int .i64 x6, .bool b0, .bool b1, .bool b2, .bool true, .int .i64 x8, .int .i64 x9, .int .i64 x10, .slice M8 L2.length cm8] (w12.setCell ⟨g, 15, none⟩ (.slice M8 L2.length cm8))) := Lib.hid (st12.set_ 15 (.slice M8 L2.length cm8))
      have own13 := Lib.hid (own_keep own12 (show w12.grownBy (w12.setCell ⟨g, 15, none⟩ (.slice M8 L2.length cm8)) (some g) from G13) (by omega))
      have ownM13 := Lib.hid (own_keep (own_more ownM (by omega : w9.heap.size ≤ w11.heap.size)) (show w12.grownBy (w12.setCell ⟨g, 15, none⟩ (.slice M8 L2.length cm8)) (some g) from G13) (by omega))
      have hz13 : Hid (w9.heap.size ≤ (w12.setCell ⟨g, 15, none⟩ (.slice M8 L2.length cm8)).heap.size) := Lib.hid (Nat.le_trans (Nat.le_trans hz11 hz12) G13.size)
      clear st12 own12 ownM G13 hz12 hz11
      go_upto_region 17 with fail
      clear kc kf
      generalize w12.setCell ⟨g, 15, none⟩ (.slice M8 L2.length cm8) = w13 at *
      have st13 := st13.out
      have own13 := own13.out
      have ownM13 := ownM13.out
      have hz13 := hz13.out
      have hatT : ScrAt w13 0 w13.heap.size T C8 cc8 M8 cm8 := by
        rw [HT.out]
        exact ⟨(Sl.of_own own13).more (Nat.zero_le _) (Nat.le_refl _), (Sl.of_own ownM13).more (Nat.zero_le _) (Nat.le_refl _)⟩
      have hTl : T.Len := by rw [HT.out]; exact ⟨by show L1.length ≤ _; omega, by show L2.length ≤ _; omega⟩
      have HDF2 := HDF.out w13 st13.1.1 _ _ _ _ _ _ hatT (Nat.le_refl _) hTl
      have hcv : T.v C8 cc8 M8 cm8 = #[.int .i64 x0, .int .i64 x1, .slice C8 L1.length cc8, .int .i64 x2, .int .i64 x3, .int .i64 x4, .int .i64 x5, .int .i64 x6, .bool b0, .bool b1, .bool b2, .bool true, .int .i64 x8, .int .i64 x9, .int .i64 x10, .slice M8 L2.length cm8] := by rw [HT.out]; rfl
      rw [hcv] at HDF2
      have HDF3 := Lib.hid HDF2
      clear HDF HDF2 hatT hTl hcv
      have kz9 := bs16 st13.2.1 rfl
      have kst := bs16 st13.1.2.1 hs16
      go_wp2_with (first | ((with_reducible refine wpList_ld2 kst ?_ ?_); rfl) | ((with_reducible refine wpList_ld2 kz9 ?_ ?_); rfl))
      refine HDF3.out.mono ?_
      rintro e w20 ⟨A20, c20, rfl, own20, b20⟩
      have st20 := st13.later b20
      have ownC := own_below own13 b20 (Nat.le_refl _)
      have ownM20 := Lib.hid (own_below ownM13 b20 (Nat.le_refl _))
      have hd20 := HDD.out.below st20.1.1 hup2
      have z20 := b20.size
      have c1 := run_string_of (Sl.of_own own20) Try.underlying23 Try.underlying5 Try.underlying9
      have c2 := run_string_of hd20 Try.underlying23 Try.underlying5 Try.underlying9
      clear st13 own13 b20 HDF3 own20 hd20 kz9 kst
      obtain ⟨D1, D2⟩ := DD
      have HB2 := HB.out
      simp only at HB2 c1 ⊢
      go_upto_region 18 with fail
      go_cut [159] (fun s159 wx => ∃ q : Bool, s159 = .bool q ∧ Hid (q = B) ∧ w20 = wx)
      case first =>
        by_cases he : D2 = 0
        rotate_left
        · have hBt : true = B := by rw [← HB2]; simp [he]
          have de1 : (D2 == 0) = false := by simpa using he
          have de2 : (D2 != 0) = true := by simp [he]
          have HBt := Lib.hid hBt
          clear HB2 he hBt c1 c2
          go_wp2_with fail
          go_meet
          exact ⟨true, rfl, HBt, rfl⟩
        · subst he
          have hBt : (!(D1 == d)) = B := by rw [← HB2, show (D1 == d) = decide (D1 = d) from by rw [Bool.eq_iff_iff]; simp]; simp
          have HBt := Lib.hid hBt
          clear HB2 hBt
          go_wp2_with fail
          go_meet
          exact ⟨_, rfl, Lib.hid (HBt.out ▸ rfl), rfl⟩
      case rest =>
        obtain ⟨q, rfl, hq, rfl⟩ := hcut
        have hqB := hq.out
        clear c1 c2 hq HB2 HB
        subst hqB
        have hRs := HRs.out
        have hRe := HRe.out
        clear HRs HRe
        cases q
        · simp only [cond_false] at hRs hRe
          subst hRs hRe
          obtain ⟨⟨bbx, -, bz1⟩, kb20, -, -, -⟩ := st20
          obtain ⟨W4, hst, B4, hgr, hz4⟩ := scr_st bz1 rfl #[.int .i64 x0, .int .i64 x1, .slice C8 L1.length cc8, .int .i64 x2, .int .i64 x3, .int .i64 x4, .int .i64 x5, .int .i64 x6, .bool b0, .bool b1, .bool b2, .bool true, .int .i64 x8, .int .i64 x9, .int .i64 x10, .slice M8 L2.length cm8] rfl rfl
          have bb4 := bbx.grown hgr (by have := bz1.lt; omega) (fun k e => by cases e; omega)
          have ownC4 := own_keep ownC hgr (by omega)
          have ownM4 := own_keep ownM20.out hgr (by omega)
          have HT2 := HT.out
          clear bz1 bbx hgr ownC ownM20 HT
          subst HT2
          have kz10 := bs16 kb20 rfl
          go_upto_region 20 with fail
          iterate 10 (first | ((with_reducible refine wpList_ld2 kz10 ?_ ?_); rfl) | ((with_reducible refine wpList_st2 hst ?_ ?_); exact ⟨rfl, rfl⟩) | go_values | go_skip | go_guarded | go_step | go_upon | go_back)
          refine bodyPost_ret (v := .tuple #[.agg #[.int .i64 x0, .int .i64 x1, .slice C8 L1.length cc8, .int .i64 x2, .int .i64 x3, .int .i64 x4, .int .i64 x5, .int .i64 x6, .bool b0, .bool b1, .bool b2, .bool true, .int .i64 x8, .int .i64 x9, .int .i64 x10, .slice M8 L2.length cm8], .int .i64 0]) ?_ ?_ ?_
          · exact results_cell2 (t := 4) (u := 5) rfl _ rfl B4 rfl
          · rfl
          · exact ⟨C8, cc8, M8, cm8, rfl, own_more ownC4 (by omega), own_more ownM4 (by omega), bb4⟩
        · simp only [cond_true] at hRs hRe
          subst hRs hRe
          clear ownC ownM20 HT
          obtain ⟨⟨bbx, -, bz1⟩, -, -, -, -⟩ := st20
          obtain ⟨W4, hst, B, hgr, hz4⟩ := scr_st bz1 rfl #[.int .i64 0, .int .i64 0, .slice none 0 0, .int .i64 0, .int .i64 0, .int .i64 0, .int .i64 0, .int .i64 0, .bool false, .bool false, .bool false, .bool false, .int .i64 0, .int .i64 0, .int .i64 0, .slice none 0 0] rfl rfl
          have bb4 := bbx.grown hgr (by have := bz1.lt; omega) (fun k e => by cases e; omega)
          clear bz1 bbx hgr
          go_upto_region 19 with fail
          iterate 13 (first | (with_reducible refine wpList_st2 hst ?_ ?_; exact ⟨rfl, rfl⟩) | go_values | go_skip | go_guarded | go_step | go_upon | go_back)
          refine bodyPost_ret (v := .tuple #[.agg #[.int .i64 0, .int .i64 0, .slice none 0 0, .int .i64 0, .int .i64 0, .int .i64 0, .int .i64 0, .int .i64 0, .bool false, .bool false, .bool false, .bool false, .int .i64 0, .int .i64 0, .int .i64 0, .slice none 0 0], .int .i64 190]) ?_ ?_ ?_
          · exact results_cell2 (t := 4) (u := 5) rfl _ rfl B rfl
          · rfl
          · exact ⟨none, 0, none, 0, rfl, World.ownsRow_nil _ _ _ _, World.ownsRow_nil _ _ _ _, bb4⟩
end Go.Proofs.Ytfeeincglijmjaa
