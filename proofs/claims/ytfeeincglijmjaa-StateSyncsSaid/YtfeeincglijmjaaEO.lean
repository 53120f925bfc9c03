/- Texts of this seat, one behind the other. -/
import Derived.Test.YtfeeincglijmjaaZB9
import Derived.Test.YtfeeincglijmjaaGE
import Derived.Test.YtfeeincglijmjaaZB2
namespace Go.Proofs.Ytfeeincglijmjaa
open Go.RowKit
set_option linter.unusedVariables false
set_option linter.unusedSimpArgs false
attribute [local go_sem ↓] Go.wp_at_zero Go.wp_at_succ

theorem results_cell1 {fn : Func} {t : Tmp} (h : fn.results = #[.cell t 35]) (tmps : Array Value) {w : World} {g : Nat} {cs : Array Value} (hp : tmps.getD t undef = .pointer (some ⟨g, 0, none⟩)) (hb : Blk w g 35 cs) (hs : cs.size = 16) :
    (results fn tmps).run Try.prog w = .ok (.agg cs) w := by
  have hl := scr_ldv hb hs
  simp only [Array.getD_eq_getD_getElem?] at hp
  simp [results, h, hp, hl, asAddr]
/-- What a screen is handed back as, its places rows of the callee's own. -/
def RetSo (w : World) (s : Scr) (e : Ending) (w' : World) : Prop :=
  ∃ C cc M cm, e = .returned (.agg (s.v C cc M cm)) ∧ w'.ownsRow w.heap.size 64 2 (.slice C s.cs.length cc) s.cs.length (cCells s.cs) ∧ w'.ownsRow w.heap.size 64 2 (.slice M s.ms.length cm) s.ms.length (cCells s.ms) ∧ Below w.heap.size w w'
theorem own_none {w w' : World} {base : Nat} {e : TypeId} {s : Nat} {v : Value} {n : Nat} {xs : List Value} (h : w.ownsRow base e s v n xs) (hg : w.grownBy w' none) : w'.ownsRow base e s v n xs :=
  own_below h ((Below.refl _ _).grown hg (Nat.le_refl _) (fun k e => by cases e)) (Nat.le_refl _)
set_option maxHeartbeats 8000000 in
set_option maxRecDepth 100000 in
theorem copy_in_own {lo up : Nat} {s : Scr} {C M : Option Addr} {cc cm : Nat} {w : World} (hat : ScrAt w lo up s C cc M cm) (hup : up ≤ w.heap.size) (hl : s.cs.length ≤ 1000000 ∧ s.ms.length ≤ 1000000) (h : gOk s = true) :
    Calls Try.prog 69 #[.agg (s.v C cc M cm), .func (.func 70) #[] #[]] w (RetSo w s) := by
  have HC := Lib.hid (fun W (b : Below w.heap.size w W) => check_ok (hat.below b hup) (Nat.le_trans hup b.size) ⟨by omega, by omega⟩ h)
  obtain ⟨i0, hi0, hz0, hz1, hz2⟩ := info_parts info64
  obtain ⟨hc, hm⟩ := hat
  have HCL := Lib.hid (fun W (b : Below w.heap.size w W) => clonec_any (hc.below b hup) (Nat.le_trans hup b.size) hl.1)
  have HMS := Lib.hid hm
  obtain ⟨l1, l2⟩ := hl
  obtain ⟨W, H, X, Y, At, Tp, Bt, wr, au, hi, al, s0, s1, s2, cs, ms⟩ := s
  unfold Scr.v at HC ⊢
  simp only at HC HCL HMS l1 l2 ⊢
  clear h hc hm
  have bb := ((Below.refl w.heap.size w).alloc (Nat.le_refl _) (.cells #[.int .i64 W, .int .i64 H, .slice C cs.length cc, .int .i64 X, .int .i64 Y, .int .i64 At, .int .i64 Tp, .int .i64 Bt, .bool wr, .bool au, .bool hi, .bool al, .int .i64 s0, .int .i64 s1, .int .i64 s2, .slice M ms.length cm] 35)).alloc (by simp) (.cells #[.int .i64 0, .int .i64 0, .slice none 0 0, .int .i64 0, .int .i64 0, .int .i64 0, .int .i64 0, .int .i64 0, .bool false, .bool false, .bool false, .bool false, .int .i64 0, .int .i64 0, .int .i64 0, .slice none 0 0] 35)
  have bs := (Blk.new w 35 #[.int .i64 W, .int .i64 H, .slice C cs.length cc, .int .i64 X, .int .i64 Y, .int .i64 At, .int .i64 Tp, .int .i64 Bt, .bool wr, .bool au, .bool hi, .bool al, .int .i64 s0, .int .i64 s1, .int .i64 s2, .slice M ms.length cm] rfl).alloc (.cells #[.int .i64 0, .int .i64 0, .slice none 0 0, .int .i64 0, .int .i64 0, .int .i64 0, .int .i64 0, .int .i64 0, .bool false, .bool false, .bool false, .bool false, .int .i64 0, .int .i64 0, .int .i64 0, .slice none 0 0] 35)
  have bz := Blk.new (w.alloc (.cells #[.int .i64 W, .int .i64 H, .slice C cs.length cc, .int .i64 X, .int .i64 Y, .int .i64 At, .int .i64 Tp, .int .i64 Bt, .bool wr, .bool au, .bool hi, .bool al, .int .i64 s0, .int .i64 s1, .int .i64 s2, .slice M ms.length cm] 35)) 35 #[.int .i64 0, .int .i64 0, .slice none 0 0, .int .i64 0, .int .i64 0, .int .i64 0, .int .i64 0, .int .i64 0, .bool false, .bool false, .bool false, .bool false, .int .i64 0, .int .i64 0, .int .i64 0, .slice none 0 0] (g := w.heap.size + 1) (by simp)
  have ab2 := addr_add w.heap.size 0 2
  have ab15 := addr_add w.heap.size 0 15
  go_enter Try.func69, Try.ntmps69
  go_upto_region 1 with fail
  generalize ((w.alloc (.cells #[.int .i64 W, .int .i64 H, .slice C cs.length cc, .int .i64 X, .int .i64 Y, .int .i64 At, .int .i64 Tp, .int .i64 Bt, .bool wr, .bool au, .bool hi, .bool al, .int .i64 s0, .int .i64 s1, .int .i64 s2, .slice M ms.length cm] 35)).alloc (.cells #[.int .i64 0, .int .i64 0, .slice none 0 0, .int .i64 0, .int .i64 0, .int .i64 0, .int .i64 0, .int .i64 0, .bool false, .bool false, .bool false, .bool false, .int .i64 0, .int .i64 0, .int .i64 0, .slice none 0 0] 35)) = w0 at *
  have ks := bs16 bs rfl
  go_wp2_with ((with_reducible refine wpList_ld2 ks ?_ ?_); rfl)
  refine (HC.out _ bb).mono ?_
  rintro e w1 ⟨rfl, b1⟩
  have bz1 := bz.later b1
  have bs1 := bs.later b1
  have z1 : w.heap.size + 2 ≤ w1.heap.size := bz1.lt
  have bb1 := bb.trans (b1.mono bb.size)
  clear b1 bz bb bs ks
  have ⟨kc, ke⟩ := bs1.rules
  go_wp2_with fail
  refine (HCL.out _ bb1).mono ?_
  rintro e w2 ⟨C2, cc2, rfl, hown, b2⟩
  have bz2 := bz1.later b2
  have bs2 := bs1.later b2
  have z2 := b2.size
  have bb2 := bb1.trans (b2.mono (by omega))
  have oC2 := own_more hown (base' := w.heap.size + 2) (by omega)
  clear b2 bz1 bs1 kc ke hown bb1
  have bs3 : Blk (w2.setCell ⟨w.heap.size, 2, none⟩ (.slice C2 cs.length cc2)) w.heap.size 35 #[.int .i64 W, .int .i64 H, .slice C2 cs.length cc2, .int .i64 X, .int .i64 Y, .int .i64 At, .int .i64 Tp, .int .i64 Bt, .bool wr, .bool au, .bool hi, .bool al, .int .i64 s0, .int .i64 s1, .int .i64 s2, .slice M ms.length cm] := bs2.set_ 2 (.slice C2 cs.length cc2)
  have ⟨kc, ke⟩ := bs2.rules
  have bb3 := bb2.setCell (p := ⟨w.heap.size, 2, none⟩) (by simp) (.slice C2 cs.length cc2)
  have oC3 := own_setBlk oC2 bs2 (by decide) 2 (.slice C2 cs.length cc2)
  have hM3 := HMS.out.below bb3 hup
  have bz3 := bz2.far (p := ⟨w.heap.size, 2, none⟩) (by simp) (.slice C2 cs.length cc2)
  have hz3 : (w2.setCell ⟨w.heap.size, 2, none⟩ (.slice C2 cs.length cc2)).heap.size = w2.heap.size := by simp
  have Hz3 : Hid (w1.heap.size ≤ (w2.setCell ⟨w.heap.size, 2, none⟩ (.slice C2 cs.length cc2)).heap.size) := Lib.hid (by rw [hz3]; exact z2)
  clear hz3 bs2 bz2 bb2 oC2
  go_upto_region 4 with fail
  generalize w2.setCell ⟨w.heap.size, 2, none⟩ (.slice C2 cs.length cc2) = w3 at *
  clear kc ke z2
  have z3 := Hz3.out
  have ⟨kc, ke⟩ := bs3.rules
  go_wp2_with (at_builtin; refine wpList_append_sl _ rfl (.const (.slice none 0 0)) (.tmp 14) _ rfl (w.heap.size + 2) 64 i0 _ 2 16 Try.underlying32 hi0 hz0 hz1 hz2 rfl (by omega) (.slice none 0 0) 0 [] rfl (World.ownsRow_nil _ _ _ _) lo up _ ms.length cm _ rfl hM3 (cCells_one _) ms.length (by omega) _ rfl (by unfold maxLen; omega) (by omega) (by omega) ?_; intro M2 cm2 w4 hown4 hg4; have bs4 := bs3.grown hg4 (by simp [Value.ownBlock]); have bz4 := bz3.grown hg4 (by simp [Value.ownBlock]); have ⟨kc4, ke4⟩ := bs4.rules)
  refine (nothing_any _ _).mono ?_
  rintro e w5 ⟨rfl, rfl⟩
  have bb4 := bb3.grown hg4 (by omega) (fun g e => by simp [Value.ownBlock] at e)
  have oC4 := own_none oC3 hg4
  have z4 : w3.heap.size ≤ w4.heap.size := hg4.size
  have bs5 : Blk (w4.setCell ⟨w.heap.size, 15, none⟩ (.slice M2 ms.length cm2)) w.heap.size 35 #[.int .i64 W, .int .i64 H, .slice C2 cs.length cc2, .int .i64 X, .int .i64 Y, .int .i64 At, .int .i64 Tp, .int .i64 Bt, .bool wr, .bool au, .bool hi, .bool al, .int .i64 s0, .int .i64 s1, .int .i64 s2, .slice M2 ms.length cm2] := bs4.set_ 15 (.slice M2 ms.length cm2)
  have bz5 := bz4.far (p := ⟨w.heap.size, 15, none⟩) (by simp) (.slice M2 ms.length cm2)
  have bb5 := bb4.setCell (p := ⟨w.heap.size, 15, none⟩) (by simp) (.slice M2 ms.length cm2)
  have oC5 := own_setBlk oC4 bs4 (by decide) 15 (.slice M2 ms.length cm2)
  have oM5 := own_setBlk hown4 bs4 (by decide) 15 (.slice M2 ms.length cm2)
  have hz5 : (w4.setCell ⟨w.heap.size, 15, none⟩ (.slice M2 ms.length cm2)).heap.size = w4.heap.size := by simp
  have Hz5 : Hid (w3.heap.size ≤ (w4.setCell ⟨w.heap.size, 15, none⟩ (.slice M2 ms.length cm2)).heap.size) := Lib.hid (by rw [hz5]; exact z4)
  clear kc ke kc4 ke4 bs4 bz4 bs3 bz3 bb4 oC4 hM3 oC3 hown4 bb3 hg4 hz5 z4
  generalize w4.setCell ⟨w.heap.size, 15, none⟩ (.slice M2 ms.length cm2) = W5 at *
  have z5 := Hz5.out
  have ks5 := bs16 bs5 rfl
  obtain ⟨W6, hst, B6, hg6, hz6⟩ := scr_st bz5 rfl #[.int .i64 W, .int .i64 H, .slice C2 cs.length cc2, .int .i64 X, .int .i64 Y, .int .i64 At, .int .i64 Tp, .int .i64 Bt, .bool wr, .bool au, .bool hi, .bool al, .int .i64 s0, .int .i64 s1, .int .i64 s2, .slice M2 ms.length cm2] rfl rfl
  have bb6 := bb5.grown hg6 (by omega) (fun k e => by cases e; omega)
  have oC6 := own_keep oC5 hg6 (by omega)
  have oM6 := own_keep oM5 hg6 (by omega)
  clear bz5 bs5 bb5 oC5 oM5 hg6
  go_wp2_with (first | ((with_reducible refine wpList_ld2 ks5 ?_ ?_); rfl) | ((with_reducible refine wpList_st2 hst ?_ ?_); exact ⟨rfl, rfl⟩))
  exact bodyPost_ret (results_cell1 rfl _ rfl B6 rfl) rfl ⟨C2, cc2, M2, cm2, rfl, own_more oC6 (by omega), own_more oM6 (by omega), bb6⟩
set_option maxHeartbeats 4000000 in
set_option maxRecDepth 100000 in
theorem copy_own {lo up : Nat} {s : Scr} {C M : Option Addr} {cc cm : Nat} {w : World} (hat : ScrAt w lo up s C cc M cm) (hup : up ≤ w.heap.size) (hl : s.cs.length ≤ 1000000 ∧ s.ms.length ≤ 1000000) (h : gOk s = true) :
    Calls Try.prog 29 #[.agg (s.v C cc M cm)] w (RetSo w s) := by
  have HT := Lib.hid (fun W (b : Below w.heap.size w W) => copy_in_own (hat.below b hup) (Nat.le_trans hup b.size) hl h)
  clear hat hl h
  obtain ⟨W, H, X, Y, At, Tp, Bt, wr, au, hi, al, s0, s1, s2, cs, ms⟩ := s
  unfold Scr.v at HT ⊢
  simp only at HT ⊢
  have bb := ((Below.refl w.heap.size w).alloc (Nat.le_refl _) (.cells #[.int .i64 W, .int .i64 H, .slice C cs.length cc, .int .i64 X, .int .i64 Y, .int .i64 At, .int .i64 Tp, .int .i64 Bt, .bool wr, .bool au, .bool hi, .bool al, .int .i64 s0, .int .i64 s1, .int .i64 s2, .slice M ms.length cm] 35)).alloc (by simp) (.cells #[.int .i64 0, .int .i64 0, .slice none 0 0, .int .i64 0, .int .i64 0, .int .i64 0, .int .i64 0, .int .i64 0, .bool false, .bool false, .bool false, .bool false, .int .i64 0, .int .i64 0, .int .i64 0, .slice none 0 0] 35)
  have bs := (Blk.new w 35 #[.int .i64 W, .int .i64 H, .slice C cs.length cc, .int .i64 X, .int .i64 Y, .int .i64 At, .int .i64 Tp, .int .i64 Bt, .bool wr, .bool au, .bool hi, .bool al, .int .i64 s0, .int .i64 s1, .int .i64 s2, .slice M ms.length cm] rfl).alloc (.cells #[.int .i64 0, .int .i64 0, .slice none 0 0, .int .i64 0, .int .i64 0, .int .i64 0, .int .i64 0, .int .i64 0, .bool false, .bool false, .bool false, .bool false, .int .i64 0, .int .i64 0, .int .i64 0, .slice none 0 0] 35)
  have bz := Blk.new (w.alloc (.cells #[.int .i64 W, .int .i64 H, .slice C cs.length cc, .int .i64 X, .int .i64 Y, .int .i64 At, .int .i64 Tp, .int .i64 Bt, .bool wr, .bool au, .bool hi, .bool al, .int .i64 s0, .int .i64 s1, .int .i64 s2, .slice M ms.length cm] 35)) 35 #[.int .i64 0, .int .i64 0, .slice none 0 0, .int .i64 0, .int .i64 0, .int .i64 0, .int .i64 0, .int .i64 0, .bool false, .bool false, .bool false, .bool false, .int .i64 0, .int .i64 0, .int .i64 0, .slice none 0 0] (g := w.heap.size + 1) (by simp)
  go_enter Try.func29, Try.ntmps29
  go_upto_region 1 with fail
  generalize ((w.alloc (.cells #[.int .i64 W, .int .i64 H, .slice C cs.length cc, .int .i64 X, .int .i64 Y, .int .i64 At, .int .i64 Tp, .int .i64 Bt, .bool wr, .bool au, .bool hi, .bool al, .int .i64 s0, .int .i64 s1, .int .i64 s2, .slice M ms.length cm] 35)).alloc (.cells #[.int .i64 0, .int .i64 0, .slice none 0 0, .int .i64 0, .int .i64 0, .int .i64 0, .int .i64 0, .int .i64 0, .bool false, .bool false, .bool false, .bool false, .int .i64 0, .int .i64 0, .int .i64 0, .slice none 0 0] 35)) = w0 at *
  have ks := bs16 bs rfl
  have z0 := bz.lt
  go_wp2_with ((with_reducible refine wpList_ld2 ks ?_ ?_); rfl)
  refine (HT.out _ bb).mono ?_
  rintro e w1 ⟨C2, cc2, M2, cm2, rfl, oC, oM, b1⟩
  have bz1 := bz.later b1
  have bb1 := bb.trans (b1.mono bb.size)
  have z1 := b1.size
  have oC1 := own_more oC (base' := w.heap.size + 2) (by omega)
  have oM1 := own_more oM (base' := w.heap.size + 2) (by omega)
  unfold Scr.v
  simp only
  clear b1 bz bb bs ks oC oM
  simp only at oC1 oM1
  obtain ⟨W6, hst, B6, hg6, hz6⟩ := scr_st bz1 rfl #[.int .i64 W, .int .i64 H, .slice C2 cs.length cc2, .int .i64 X, .int .i64 Y, .int .i64 At, .int .i64 Tp, .int .i64 Bt, .bool wr, .bool au, .bool hi, .bool al, .int .i64 s0, .int .i64 s1, .int .i64 s2, .slice M2 ms.length cm2] rfl rfl
  have bb6 := bb1.grown hg6 (by omega) (fun k e => by cases e; omega)
  have oC6 := own_keep oC1 hg6 (by omega)
  have oM6 := own_keep oM1 hg6 (by omega)
  clear bz1 bb1 oC1 oM1 hg6
  go_wp2_with ((with_reducible refine wpList_st2 hst ?_ ?_); exact ⟨rfl, rfl⟩)
  exact bodyPost_ret (results_cell1 rfl _ rfl B6 rfl) rfl ⟨C2, cc2, M2, cm2, rfl, own_more oC6 (by omega), own_more oM6 (by omega), bb6⟩
end Go.Proofs.Ytfeeincglijmjaa
