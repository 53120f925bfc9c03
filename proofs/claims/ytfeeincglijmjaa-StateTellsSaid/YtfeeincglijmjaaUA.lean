/- The document's Copy of a screen: its places are rows of its own. -/
import Derived.Test.YtfeeincglijmjaaEO
import Derived.Test.YtfeeincglijmjaaGD
namespace Go.Proofs.Ytfeeincglijmjaa
open Go.RowKit
set_option linter.unusedVariables false
set_option linter.unusedSimpArgs false
attribute [local go_sem ↓] Go.wp_at_zero Go.wp_at_succ

set_option maxHeartbeats 8000000 in
set_option maxRecDepth 100000 in
theorem rcopy_own {lo up : Nat} {s : Scr} {C M : Option Addr} {cc cm : Nat} {w : World} (hat : ScrAt w lo up s C cc M cm) (hup : up ≤ w.heap.size) (hl : s.cs.length ≤ 1000000 ∧ s.ms.length ≤ 1000000) (h : gOk s = true) :
    Calls Try.prog 74 #[.agg (s.v C cc M cm)] w (RetSo w s) := by
  have HC := Lib.hid (fun W (b : Below w.heap.size w W) => rcheck_ok (hat.below b hup) (Nat.le_trans hup b.size) ⟨by omega, by omega⟩ h)
  obtain ⟨i0, hi0, hz0, hz1, hz2⟩ := info_parts info64
  obtain ⟨hc, hm⟩ := hat
  have HCS := Lib.hid hc
  have HMS := Lib.hid hm
  obtain ⟨l1, l2⟩ := hl
  obtain ⟨W, H, X, Y, At, Tp, Bt, wr, au, hi, al, s0, s1, s2, cs, ms⟩ := s
  unfold Scr.v at HC ⊢
  simp only at HC HCS HMS l1 l2 ⊢
  clear h hc hm
  have bb := ((Below.refl w.heap.size w).alloc (Nat.le_refl _) (.cells #[.int .i64 W, .int .i64 H, .slice C cs.length cc, .int .i64 X, .int .i64 Y, .int .i64 At, .int .i64 Tp, .int .i64 Bt, .bool wr, .bool au, .bool hi, .bool al, .int .i64 s0, .int .i64 s1, .int .i64 s2, .slice M ms.length cm] 35)).alloc (by simp) (.cells #[.int .i64 0, .int .i64 0, .slice none 0 0, .int .i64 0, .int .i64 0, .int .i64 0, .int .i64 0, .int .i64 0, .bool false, .bool false, .bool false, .bool false, .int .i64 0, .int .i64 0, .int .i64 0, .slice none 0 0] 35)
  have bs := (Blk.new w 35 #[.int .i64 W, .int .i64 H, .slice C cs.length cc, .int .i64 X, .int .i64 Y, .int .i64 At, .int .i64 Tp, .int .i64 Bt, .bool wr, .bool au, .bool hi, .bool al, .int .i64 s0, .int .i64 s1, .int .i64 s2, .slice M ms.length cm] rfl).alloc (.cells #[.int .i64 0, .int .i64 0, .slice none 0 0, .int .i64 0, .int .i64 0, .int .i64 0, .int .i64 0, .int .i64 0, .bool false, .bool false, .bool false, .bool false, .int .i64 0, .int .i64 0, .int .i64 0, .slice none 0 0] 35)
  have bz := Blk.new (w.alloc (.cells #[.int .i64 W, .int .i64 H, .slice C cs.length cc, .int .i64 X, .int .i64 Y, .int .i64 At, .int .i64 Tp, .int .i64 Bt, .bool wr, .bool au, .bool hi, .bool al, .int .i64 s0, .int .i64 s1, .int .i64 s2, .slice M ms.length cm] 35)) 35 #[.int .i64 0, .int .i64 0, .slice none 0 0, .int .i64 0, .int .i64 0, .int .i64 0, .int .i64 0, .int .i64 0, .bool false, .bool false, .bool false, .bool false, .int .i64 0, .int .i64 0, .int .i64 0, .slice none 0 0] (g := w.heap.size + 1) (by simp)
  have ab2 := addr_add w.heap.size 0 2
  have ab15 := addr_add w.heap.size 0 15
  go_enter Try.func74, Try.ntmps74
  go_upto_region 1 with fail
  generalize ((w.alloc (.cells #[.int .i64 W, .int .i64 H, .slice C cs.length cc, .int .i64 X, .int .i64 Y, .int .i64 At, .int .i64 Tp, .int .i64 Bt, .bool wr, .bool au, .bool hi, .bool al, .int .i64 s0, .int .i64 s1, .int .i64 s2, .slice M ms.length cm] 35)).alloc (.cells #[.int .i64 0, .int .i64 0, .slice none 0 0, .int .i64 0, .int .i64 0, .int .i64 0, .int .i64 0, .int .i64 0, .bool false, .bool false, .bool false, .bool false, .int .i64 0, .int .i64 0, .int .i64 0, .slice none 0 0] 35)) = w0 at *
  have ks := bs16 bs rfl
  go_wp2_with ((with_reducible refine wpList_ld2 ks ?_ ?_); rfl)
  refine (HC.out _ bb).mono ?_
  rintro e w1 ⟨rfl, b1⟩
  have bz1 := bz.later b1
  have bs1 := bs.later b1
  have z1 : w.heap.size + 2 ≤ w1.heap.size := bz1.lt
  have bb1 := bb.trans (b1.mono bb.size)
  clear b1 bz bb bs ks
  have bs1a := bs1.alloc (.cells #[] 64)
  have hC1 := HCS.out.below (bb1.alloc (by omega) (.cells #[] 64)) hup
  have hb1 : Below w1.heap.size w1 (w1.alloc (.cells #[] 64)) := (Below.refl _ _).alloc (Nat.le_refl _) _
  have ⟨kc, ke⟩ := bs1a.rules
  go_upto_region 3 with fail
  go_upto_region 4 with (at_builtin; refine wpList_append_sl _ rfl (.tmp 8) (.tmp 10) _ rfl w1.heap.size 64 i0 _ 2 16 Try.underlying32 hi0 hz0 hz1 hz2 rfl (by omega) (.slice (some ⟨w1.heap.size, 0, none⟩) 0 0) 0 [] rfl (own_made rfl (Nat.le_refl _)) lo up _ cs.length cc _ rfl hC1 (cCells_one _) cs.length (by omega) _ rfl (by unfold maxLen; omega) (by omega) (by simp) ?_; intro C2 cc2 w2 hown2 hg2; have b2 := hb1.grown hg2 (by simp) (fun k e => by cases e; exact Nat.le_refl _); have bs2 := bs1.later b2; have ⟨kc2, ke2⟩ := bs2.rules)
  rw [List.nil_append] at hown2
  have bz2 := bz1.later b2
  have z2 := b2.size
  have bb2 := bb1.trans (b2.mono (by omega))
  have oC2 := own_more hown2 (base' := w.heap.size + 2) (by omega)
  have bs3 : Blk (w2.setCell ⟨w.heap.size, 2, none⟩ (.slice C2 cs.length cc2)) w.heap.size 35 #[.int .i64 W, .int .i64 H, .slice C2 cs.length cc2, .int .i64 X, .int .i64 Y, .int .i64 At, .int .i64 Tp, .int .i64 Bt, .bool wr, .bool au, .bool hi, .bool al, .int .i64 s0, .int .i64 s1, .int .i64 s2, .slice M ms.length cm] := bs2.set_ 2 (.slice C2 cs.length cc2)
  have bb3 := bb2.setCell (p := ⟨w.heap.size, 2, none⟩) (by simp) (.slice C2 cs.length cc2)
  have oC3 := own_setBlk oC2 bs2 (by decide) 2 (.slice C2 cs.length cc2)
  have hM3 := HMS.out.below bb3 hup
  have bz3 := bz2.far (p := ⟨w.heap.size, 2, none⟩) (by simp) (.slice C2 cs.length cc2)
  have hz3 : (w2.setCell ⟨w.heap.size, 2, none⟩ (.slice C2 cs.length cc2)).heap.size = w2.heap.size := by simp
  have Hz3 : Hid (w1.heap.size ≤ (w2.setCell ⟨w.heap.size, 2, none⟩ (.slice C2 cs.length cc2)).heap.size) := Lib.hid (by rw [hz3]; exact z2)
  clear hz3 bs2 bz2 bb2 oC2 kc ke kc2 ke2 b2 hown2 hg2 hb1 hC1 bs1a bs1 bz1
  generalize w2.setCell ⟨w.heap.size, 2, none⟩ (.slice C2 cs.length cc2) = w3 at *
  clear z2
  have z3 := Hz3.out
  have ⟨kc, ke⟩ := bs3.rules
  go_upto_region 5 with fail
  go_upto_region 6 with (at_builtin; refine wpList_append_sl _ rfl (.tmp 13) (.tmp 15) _ rfl (w.heap.size + 2) 64 i0 _ 2 16 Try.underlying32 hi0 hz0 hz1 hz2 rfl (by omega) (.slice none 0 0) 0 [] rfl (World.ownsRow_nil _ _ _ _) lo up _ ms.length cm _ rfl hM3 (cCells_one _) ms.length (by omega) _ rfl (by unfold maxLen; omega) (by omega) (by omega) ?_; intro M2 cm2 w4 hown4 hg4; have bs4 := bs3.grown hg4 (by simp [Value.ownBlock]); have bz4 := bz3.grown hg4 (by simp [Value.ownBlock]); have ⟨kc4, ke4⟩ := bs4.rules)
  rw [List.nil_append] at hown4
  have bb4 := bb3.grown hg4 (by omega) (fun g e => by simp [Value.ownBlock] at e)
  have oC4 := own_none oC3 hg4
  have z4 : w3.heap.size ≤ w4.heap.size := hg4.size
  have bs5 : Blk (w4.setCell ⟨w.heap.size, 15, none⟩ (.slice M2 ms.length cm2)) w.heap.size 35 #[.int .i64 W, .int .i64 H, .slice C2 cs.length cc2, .int .i64 X, .int .i64 Y, .int .i64 At, .int .i64 Tp, .int .i64 Bt, .bool wr, .bool au, .bool hi, .bool al, .int .i64 s0, .int .i64 s1, .int .i64 s2, .slice M2 ms.length cm2] := bs4.set_ 15 (.slice M2 ms.length cm2)
  have bz5 := bz4.far (p := ⟨w.heap.size, 15, none⟩) (by simp) (.slice M2 ms.length cm2)
  have bb5 := bb4.setCell (p := ⟨w.heap.size, 15, none⟩) (by simp) (.slice M2 ms.length cm2)
  have oC5 := own_setBlk oC4 bs4 (by decide) 15 (.slice M2 ms.length cm2)
  have oM5 := own_setBlk hown4 bs4 (by decide) 15 (.slice M2 ms.length cm2)
  have hz5 : (w4.setCell ⟨w.heap.size, 15, none⟩ (.slice M2 ms.length cm2)).heap.size = w4.heap.size := by simp
  have Hz5 : Hid (w3.heap.size ≤ (w4.setCell ⟨w.heap.size, 15, none⟩ (.slice M2 ms.length cm2)).heap.size) := Lib.hid (by rw [hz5]; exact z4)
  clear kc ke kc4 ke4 bs4 bz4 bs3 bz3 bb4 oC4 hM3 oC3 hown4 bb3 hg4 hz5 z4
  generalize w4.setCell ⟨w.heap.size, 15, none⟩ (.slice M2 ms.length cm2) = W5 at *
  have z5 := Hz5.out
  have ks5 := bs16 bs5 rfl
  obtain ⟨W6, hst, B6, hg6, hz6⟩ := scr_st bz5 rfl #[.int .i64 W, .int .i64 H, .slice C2 cs.length cc2, .int .i64 X, .int .i64 Y, .int .i64 At, .int .i64 Tp, .int .i64 Bt, .bool wr, .bool au, .bool hi, .bool al, .int .i64 s0, .int .i64 s1, .int .i64 s2, .slice M2 ms.length cm2] rfl rfl
  have bb6 := bb5.grown hg6 (by omega) (fun k e => by cases e; omega)
  have oC6 := own_keep oC5 hg6 (by omega)
  have oM6 := own_keep oM5 hg6 (by omega)
  clear bz5 bs5 bb5 oC5 oM5 hg6
  go_wp2_with (first | ((with_reducible refine wpList_ld2 ks5 ?_ ?_); rfl) | ((with_reducible refine wpList_st2 hst ?_ ?_); exact ⟨rfl, rfl⟩))
  exact bodyPost_ret (results_cell1 rfl _ rfl B6 rfl) rfl ⟨C2, cc2, M2, cm2, rfl, own_more oC6 (by omega), own_more oM6 (by omega), bb6⟩
end Go.Proofs.Ytfeeincglijmjaa
