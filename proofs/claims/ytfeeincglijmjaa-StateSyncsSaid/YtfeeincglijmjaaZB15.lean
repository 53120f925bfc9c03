/- Texts of this seat, one behind the other. -/
import Derived.Test.YtfeeincglijmjaaZB11
import Derived.Test.YtfeeincglijmjaaEO
import Derived.Test.YtfeeincglijmjaaZB5
import Derived.Test.YtfeeincglijmjaaZB14
namespace Go.Proofs.Ytfeeincglijmjaa
open Go.RowKit
set_option linter.unusedVariables false
set_option linter.unusedSimpArgs false
attribute [local go_sem ↓] Go.wp_at_zero Go.wp_at_succ

theorem scr_new (w : World) (s : Scr) (C : Option Addr) (cc : Nat) (M : Option Addr) (cm : Nat) :
    ∃ W', (Instr.storeAt 35 (.pointer (some ⟨w.heap.size, 0, none⟩)) (.agg (s.v C cc M cm))).run Try.prog (w.alloc (.cells #[.int .i64 0, .int .i64 0, .slice none 0 0, .int .i64 0, .int .i64 0, .int .i64 0, .int .i64 0, .int .i64 0, .bool false, .bool false, .bool false, .bool false, .int .i64 0, .int .i64 0, .int .i64 0, .slice none 0 0] 35)) = .ok () W' ∧ Blk W' w.heap.size 35 (s.v C cc M cm) ∧ Below w.heap.size w W' ∧ w.heap.size + 1 ≤ W'.heap.size := by
  obtain ⟨W', h1, h2, h3, h4⟩ := scr_st (Blk.new w 35 #[.int .i64 0, .int .i64 0, .slice none 0 0, .int .i64 0, .int .i64 0, .int .i64 0, .int .i64 0, .int .i64 0, .bool false, .bool false, .bool false, .bool false, .int .i64 0, .int .i64 0, .int .i64 0, .slice none 0 0] rfl) rfl (s.v C cc M cm) rfl rfl
  exact ⟨W', h1, h2, ((Below.refl w.heap.size w).alloc (Nat.le_refl _) _).grown h3 (by simp) (fun k e => by cases e; exact Nat.le_refl _), by rw [h4]; simp⟩
theorem ScrAt.own {w : World} {base : Nat} {s : Scr} {C : Option Addr} {cc : Nat} {M : Option Addr} {cm : Nat} (h1 : w.ownsRow base 64 2 (.slice C s.cs.length cc) s.cs.length (cCells s.cs)) (h2 : w.ownsRow base 64 2 (.slice M s.ms.length cm) s.ms.length (cCells s.ms)) : ScrAt w base w.heap.size s C cc M cm := ⟨Sl.of_own h1, Sl.of_own h2⟩
theorem Sl.zero {w w' : World} {lo hi lo' hi' s c : Nat} {A : Option Addr} (h : Sl w lo hi s A 0 c []) : Sl w' lo' hi' s A 0 c [] := ⟨h.len, h.le, h.nil, fun h0 => absurd h0 (by omega)⟩
def sA : Scr := ⟨2, 1, 0, 0, 0, 0, 0, false, true, false, false, 0, 0, 0, [(32, 0), (32, 0)], []⟩
def sB : Scr := ⟨2, 1, 0, 0, 0, 0, 0, false, true, false, false, 0, 0, 0, [(120, 0), (32, 0)], []⟩
def dAB : List UInt8 := [2, 1, 0, 0, 0, 0, 0, 2, 0, 0, 0, 1, 0, 1, 64, 120, 0]
def l16 : List UInt8 := [48, 49, 50, 51, 52, 53, 54, 55, 56, 57, 97, 98, 99, 100, 101, 102]
theorem diffAB : dDiff' sA sB = (dAB, 0) := by kernel_rfl
theorem gOkA : gOk sA = true := by kernel_rfl
theorem newA : newScr 2 1 = sA := by kernel_rfl
theorem applyA1 : dApply sA [1] = (noScr, 190) := by
  refine apply_not gOkA (fun ⟨b, hb⟩ => ?_)
  have h := (diff_back hb).2.2.1
  have h2 : vAll [1] = ([1], 0) := by kernel_rfl
  rw [h2] at h
  simp at h
theorem parts16 : cParts l16 20 = [[0, 2, 48, 49, 50, 51, 52, 53, 54, 55, 56, 57, 97, 98], [1, 2, 99, 100, 101, 102]] := by kernel_rfl
theorem jgo16 : jGo true [[0, 2, 48, 49, 50, 51, 52, 53, 54, 55, 56, 57, 97, 98], [1, 2, 99, 100, 101, 102]] [] 0 = some ([(0, [48, 49, 50, 51, 52, 53, 54, 55, 56, 57, 97, 98]), (1, [99, 100, 101, 102])], 2) := by
  have r1 : rPart [0, 2, 48, 49, 50, 51, 52, 53, 54, 55, 56, 57, 97, 98] = some (0, 2, [48, 49, 50, 51, 52, 53, 54, 55, 56, 57, 97, 98]) := by kernel_rfl
  have r2 : rPart [1, 2, 99, 100, 101, 102] = some (1, 2, [99, 100, 101, 102]) := by kernel_rfl
  simp [jGo, r1, r2, jPut, List.lookup]
theorem join16 : jJoin (cParts l16 20) = (l16, 0) := by
  rw [parts16]
  unfold jJoin
  rw [jgo16]
  kernel_rfl
theorem join0 : jJoin [] = ([], 190) := by kernel_rfl
set_option maxHeartbeats 16000000 in
set_option maxRecDepth 100000 in
theorem awake19_any (w : World) : Calls Try.prog 23 #[] w fun e w' => e = .returned (.bool true) ∧ Below w.heap.size w w' := by
  have HN := new_yes (W := 2) (H := 1) (w := w) (by decide)
  rw [newA] at HN
  have HN := Lib.hid HN
  go_enter Try.func23, Try.ntmps23
  go_wp2_with fail
  refine HN.out.mono ?_
  rintro e w1 ⟨C, cc, M, cm, rfl, hat1, b1⟩
  obtain ⟨w2, hst2, kA2, b2, z2⟩ := scr_new w1 sA C cc M cm
  have q2 := bs16 kA2 rfl
  have hat2 := hat1.below b2 (Nat.le_refl _)
  have z1 := b1.size
  have bb2 := b1.trans (b2.mono z1)
  clear hat1 b1 b2 HN
  go_wp2_with (first | ((with_reducible refine wpList_ld2 q2 ?_ ?_); rfl) | ((with_reducible refine wpList_st2 hst2 ?_ ?_); exact ⟨rfl, rfl⟩))
  clear hst2 q2
  have hl : sA.cs.length ≤ 1000000 ∧ sA.ms.length ≤ 1000000 := by decide
  refine (copy_own hat2 (by omega) hl gOkA).mono ?_
  rintro e w3 ⟨C3, cc3, M3, cm3, rfl, oC3, oM3, b3⟩
  obtain ⟨w4, hst4, kB4, b4, z4⟩ := scr_new w3 sA C3 cc3 M3 cm3
  have z3 := b3.size
  have bb4 := (bb2.trans (b3.mono (by omega))).trans (b4.mono (by omega))
  have kA4 := (kA2.later b3).later b4
  have hat4 := (hat2.below b3 (by omega)).below b4 (by omega)
  have oC4 := own_below oC3 b4 (Nat.le_refl _)
  have oM4 := own_below oM3 b4 (Nat.le_refl _)
  clear b3 b4 bb2 kA2 hat2 oM3 hl
  have kB42 : w4.cell? ⟨w3.heap.size, 2, none⟩ = some (.slice C3 2 cc3) := kB4.rules.1 2
  have ab2 := addr_add w3.heap.size 0 2
  obtain ⟨g, rfl, hgb, -, ⟨u1, k1⟩, ⟨u2, k2⟩, kf, oC5⟩ := own_setc (p := 0) oC4 (by decide) 120 0
  have hgl := (oC3.lt g rfl).2
  have G5 := grownBy_setCells g [.int .i64 120, .int .i64 0] (0 * 2) w4
  have bb5 := bb4.grown G5 (by omega) (fun k e => by cases e; omega)
  have kA5 := kA4.grown G5 (fun e => by injection e with e; omega)
  have kB5 : Blk (w4.setCells g (0 * 2) [.int .i64 120, .int .i64 0]) w3.heap.size 35 (sB.v (some ⟨g, 0, none⟩) cc3 M3 cm3) := kB4.grown G5 (fun e => by injection e with e; omega)
  have hat5 := hat4.grown G5 (by omega) (fun k e => by cases e; exact .inr (by omega))
  have hatB5 : ScrAt (w4.setCells g (0 * 2) [.int .i64 120, .int .i64 0]) w2.heap.size (w4.setCells g (0 * 2) [.int .i64 120, .int .i64 0]).heap.size sB (some ⟨g, 0, none⟩) cc3 M3 cm3 := ⟨Sl.of_own oC5, (Sl.of_own oM4).zero⟩
  have hz5 : (w4.setCells g (0 * 2) [.int .i64 120, .int .i64 0]).heap.size = w4.heap.size := by simp [World.setCells]
  simp only [Nat.zero_mul, Nat.zero_add] at k1 k2
  have z5 : w4.heap.size ≤ (w4.setCells g (0 * 2) [.int .i64 120, .int .i64 0]).heap.size := by omega
  clear hz5
  generalize hW5 : w4.setCells g (0 * 2) [.int .i64 120, .int .i64 0] = w5 at *
  simp only [World.setCells, Nat.zero_mul, Nat.zero_add] at hW5
  clear G5 oC5 oM4 oC4 oC3 kA4 kB4 hat4 bb4
  have qA5 := bs16 kA5 rfl
  have qB5 := bs16 kB5 rfl
  go_wp2_with (first | ((with_reducible refine wpList_ld2 qA5 ?_ ?_); rfl) | ((with_reducible refine wpList_ld2 qB5 ?_ ?_); rfl) | ((with_reducible refine wpList_st2 hst4 ?_ ?_); exact ⟨rfl, rfl⟩))
  clear hst4 qA5 qB5 hW5 k1 k2 kB42 kf ab2
  have HD := diff_any hat5 (by omega) hatB5 (Nat.le_refl _) (by unfold Scr.Len; decide) (by unfold Scr.Len; decide)
  rw [diffAB] at HD
  refine HD.mono ?_
  rintro e w6 ⟨A6, c6, rfl, o6, b6⟩
  have z6 := b6.size
  have kA6 := kA5.later b6
  have kB6 := kB5.later b6
  have hat6 := hat5.below b6 (by omega)
  have hatB6 := hatB5.below b6 (Nat.le_refl _)
  have bb6 := bb5.trans (b6.mono (by omega))
  have sd6 := Sl.of_own o6
  clear HD b6 kA5 kB5 hat5 hatB5 bb5 o6
  have qA6 := bs16 kA6 rfl
  have HA := apply_any hat6 (by omega) sd6 (Nat.le_refl _) (by unfold Scr.Len; decide) (by decide)
  rw [apply_yes diffAB] at HA
  have HA := Lib.hid HA
  go_wp2_with (first | ((with_reducible refine wpList_ld2 qA6 ?_ ?_); rfl))
  refine HA.out.mono ?_
  rintro e w7 ⟨C7, cc7, M7, cm7, rfl, oC7, oM7, b7⟩
  obtain ⟨w8, hst8, kC8, b8, z8⟩ := scr_new w7 sB C7 cc7 M7 cm7
  have z7 := b7.size
  have kA8 := (kA6.later b7).later b8
  have kB8 := (kB6.later b7).later b8
  have hat8 := (hat6.below b7 (by omega)).below b8 (by omega)
  have hatB8 := (hatB6.below b7 (by omega)).below b8 (by omega)
  have hatC8 := (ScrAt.own oC7 oM7).below b8 (Nat.le_refl _)
  have bb8 := (bb6.trans (b7.mono (by omega))).trans (b8.mono (by omega))
  have sd8 := (sd6.below b7 (Nat.le_refl _)).below b8 (by omega)
  clear b7 b8 kA6 kB6 hat6 hatB6 oC7 oM7 bb6 sd6 HA qA6
  have qA8 := bs16 kA8 rfl
  have HA := apply_any (d := ([1] : List UInt8)) (lo2 := w8.heap.size) (up2 := w8.heap.size + 1) (hat8.alloc (by omega) (.cells #[.int .u8 1] 5)) (by simp; omega) (Sl.new w8 5 #[.int .u8 1] 1 1 1 (byteCells [1]) rfl (Nat.le_refl _) rfl rfl) (by simp) (by unfold Scr.Len; decide) (by decide)
  rw [applyA1] at HA
  have HA := Lib.hid HA
  go_wp2_with (first | ((with_reducible refine wpList_ld2 qA8 ?_ ?_); rfl) | ((with_reducible refine wpList_st2 hst8 ?_ ?_); exact ⟨rfl, rfl⟩))
  refine HA.out.mono ?_
  rintro e w9 ⟨C9, cc9, M9, cm9, rfl, oC9, oM9, b9⟩
  have b9' : Below w8.heap.size w8 w9 := ((Below.refl w8.heap.size w8).alloc (Nat.le_refl _) _).trans (b9.mono (by simp))
  obtain ⟨w10, hst10, -, b10, z10⟩ := scr_new w9 noScr C9 cc9 M9 cm9
  have z9 := b9'.size
  have kB10 := (kB8.later b9').later b10
  have kC10 := (kC8.later b9').later b10
  have hatB10 := (hatB8.below b9' (by omega)).below b10 (by omega)
  have hatC10 := (hatC8.below b9' (by omega)).below b10 (by omega)
  have bb10 := (bb8.trans (b9'.mono (by omega))).trans (b10.mono (by omega))
  have sd10 := (sd8.below b9' (by omega)).below b10 (by omega)
  clear b9 b9' b10 kA8 kB8 kC8 hat8 hatB8 hatC8 bb8 sd8 HA qA8 hst8 oC9 oM9
  have hcv := Lib.run_convert_bytes_const (P := Try.prog) w10 23 5 #[.int .u8 48, .int .u8 49, .int .u8 50, .int .u8 51, .int .u8 52, .int .u8 53, .int .u8 54, .int .u8 55, .int .u8 56, .int .u8 57, .int .u8 97, .int .u8 98, .int .u8 99, .int .u8 100, .int .u8 101, .int .u8 102] 16 16 Try.underlying23 Try.underlying5
  have HC := cut_any (z := 20) (l := l16) (lo := w10.heap.size) (up := w10.heap.size + 1) (Sl.newM w10 5 #[.int .u8 48, .int .u8 49, .int .u8 50, .int .u8 51, .int .u8 52, .int .u8 53, .int .u8 54, .int .u8 55, .int .u8 56, .int .u8 57, .int .u8 97, .int .u8 98, .int .u8 99, .int .u8 100, .int .u8 101, .int .u8 102] (16, 17) 1 16 16 (byteCells l16) rfl (Nat.le_refl _) rfl rfl) (by simp) (by decide)
  rw [parts16] at HC
  have HC := Lib.hid HC
  go_wp2_with (first | ((with_reducible refine wpList_st2 hst10 ?_ ?_); exact ⟨rfl, rfl⟩))
  refine HC.out.mono ?_
  rintro e w11 ⟨A11, c11, vs, rfl, o11, p11, b11⟩
  have b11' : Below w10.heap.size w10 w11 := ((Below.refl w10.heap.size w10).alloc (Nat.le_refl _) _).trans (b11.mono (by simp))
  have z11 := b11'.size
  have kB11 := kB10.later b11'
  have kC11 := kC10.later b11'
  have hatB11 := hatB10.below b11' (by omega)
  have hatC11 := hatC10.below b11' (by omega)
  have bb11 := bb10.trans (b11'.mono (by omega))
  have sd11 := sd10.below b11' (by omega)
  clear b11 b11' kB10 kC10 hatB10 hatC10 bb10 sd10 HC hst10
  have HJ := diffjoin_any (Sl.of_own o11) (Nat.le_refl _) p11.ps (Nat.le_refl _) (by decide) (by decide)
  rw [← parts16, join16] at HJ
  have HJ := Lib.hid HJ
  go_wp2_with fail
  refine HJ.out.mono ?_
  rintro e w12 ⟨A12, c12, rfl, o12, b12⟩
  have z12 := b12.size
  have kB12 := kB11.later b12
  have kC12 := kC11.later b12
  have hatB12 := hatB11.below b12 (by omega)
  have hatC12 := hatC11.below b12 (by omega)
  have bb12 := bb11.trans (b12.mono (by omega))
  have sd12 := sd11.below b12 (by omega)
  clear b12 kB11 kC11 hatB11 hatC11 bb11 sd11 HJ o11 p11
  have HJ := diffjoin_any (w := w12) (Sl.empty w12 0 0 1) (Nat.zero_le _) (lo := 0) (up := 0) (ps := []) ⟨rfl, fun i v p h => by cases h⟩ (Nat.zero_le _) (by decide) (by decide)
  rw [join0] at HJ
  have HJ := Lib.hid HJ
  go_wp2_with fail
  refine HJ.out.mono ?_
  rintro e w13 ⟨A13, c13, rfl, o13, b13⟩
  have z13 := b13.size
  have kB13 := kB12.later b13
  have kC13 := kC12.later b13
  have hatB13 := hatB12.below b13 (by omega)
  have hatC13 := hatC12.below b13 (by omega)
  have bb13 := bb12.trans (b13.mono (by omega))
  have sd13 := sd12.below b13 (by omega)
  have sj13 := (Sl.of_own o12).below b13 (Nat.le_refl _)
  clear b13 kB12 kC12 hatB12 hatC12 bb12 sd12 HJ o12 o13
  have qB13 := bs16 kB13 rfl
  have qC13 := bs16 kC13 rfl
  have HS := same_any hatB13 (by omega) hatC13 (by omega) (by unfold Scr.Len; decide) (by unfold Scr.Len; decide)
  rw [gSame_iff.2 rfl] at HS
  have HS := Lib.hid HS
  go_wp2_with (first | ((with_reducible refine wpList_ld2 qB13 ?_ ?_); rfl) | ((with_reducible refine wpList_ld2 qC13 ?_ ?_); rfl))
  refine HS.out.mono ?_
  rintro e w14 ⟨rfl, b14⟩
  have z14 := b14.size
  have bb14 := bb13.trans (b14.mono (by omega))
  have sd14 := sd13.below b14 (by omega)
  have sj14 := sj13.below b14 (by omega)
  clear b14 kB13 kC13 hatB13 hatC13 bb13 sd13 sj13 HS qB13 qC13
  have s15 := Sl.new w14 5 #[.int .u8 2, .int .u8 1, .int .u8 0, .int .u8 0, .int .u8 0, .int .u8 0, .int .u8 0, .int .u8 2, .int .u8 0, .int .u8 0, .int .u8 0, .int .u8 1, .int .u8 0, .int .u8 1, .int .u8 64, .int .u8 120, .int .u8 0] 1 17 17 (byteCells dAB) rfl (Nat.le_refl _) rfl rfl
  have c1 := run_string_of sd14 Try.underlying23 Try.underlying5 Try.underlying9
  have c2 := run_string_of s15 Try.underlying23 Try.underlying5 Try.underlying9
  have c3 := run_string_of (sj14.alloc (by omega) (.cells #[.int .u8 2, .int .u8 1, .int .u8 0, .int .u8 0, .int .u8 0, .int .u8 0, .int .u8 0, .int .u8 2, .int .u8 0, .int .u8 0, .int .u8 0, .int .u8 1, .int .u8 0, .int .u8 1, .int .u8 64, .int .u8 120, .int .u8 0] 5)) Try.underlying23 Try.underlying5 Try.underlying9
  have bb15 := bb14.alloc (by omega) (.cells #[.int .u8 2, .int .u8 1, .int .u8 0, .int .u8 0, .int .u8 0, .int .u8 0, .int .u8 0, .int .u8 2, .int .u8 0, .int .u8 0, .int .u8 0, .int .u8 1, .int .u8 0, .int .u8 1, .int .u8 64, .int .u8 120, .int .u8 0] 5)
  clear sd14 sj14 s15
  go_wp2_with fail
  go_ret
  exact ⟨rfl, bb15⟩
end Go.Proofs.Ytfeeincglijmjaa
