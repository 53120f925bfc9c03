/- Texts of this seat, one behind the other. -/
import Derived.Test.YtfeeincglijmjaaZB7
import Derived.Test.YtfeeincglijmjaaZB3
import Derived.Deep.RegionHeld3
namespace Go.Proofs.Ytfeeincglijmjaa
/- The walk of diff.Diff. -/
section
open Go.RowKit
set_option linter.unusedVariables false
set_option linter.unusedSimpArgs false
attribute [local go_sem ↓] Go.wp_at_zero Go.wp_at_succ

/-- The numbers that make a screen of another one. -/
def dNums (a b : Scr) : List Int := dHead b ++ dChg (dGround a b.W b.H).1 b.cs ++ (if b.al then dChg (dGround a b.W b.H).2 b.ms else [])
/-- Diff. -/
def dDiff' (a b : Scr) : List UInt8 × Int := if gOk a && gOk b then vJoin (dNums a b) else ([], 170)

set_option maxHeartbeats 8000000 in
set_option maxRecDepth 100000 in
theorem diff_no {lo up lo2 up2 : Nat} {s t : Scr} {C M C2 M2 : Option Addr} {cc cm cc2 cm2 : Nat} {w : World} (hat : ScrAt w lo up s C cc M cm) (hup : up ≤ w.heap.size) (hat2 : ScrAt w lo2 up2 t C2 cc2 M2 cm2) (hup2 : up2 ≤ w.heap.size) (hl : s.Len) (hl2 : t.Len) (h : (gOk s && gOk t) = false) :
    Calls Try.prog 25 #[.agg (s.v C cc M cm), .agg (t.v C2 cc2 M2 cm2)] w (RetBE w [] 170) := by
  cases h1 : gOk s
  · have HC := Lib.hid (fun W (b : Below w.heap.size w W) => check_bad (hat.below b hup) (Nat.le_trans hup b.size) hl h1)
    clear h1 h hat hat2 hl hl2
    obtain ⟨W, H, X, Y, At, Tp, Bt, wr, au, hi, al, s0, s1, s2, cs, ms⟩ := s
    obtain ⟨W2, H2, X2, Y2, At2, Tp2, Bt2, wr2, au2, hi2, al2, s02, s12, s22, cs2, ms2⟩ := t
    unfold Scr.v at HC ⊢
    simp only at HC ⊢
    have bb := ((Below.refl w.heap.size w).alloc (Nat.le_refl _) (.cells #[.int .i64 W, .int .i64 H, .slice C cs.length cc, .int .i64 X, .int .i64 Y, .int .i64 At, .int .i64 Tp, .int .i64 Bt, .bool wr, .bool au, .bool hi, .bool al, .int .i64 s0, .int .i64 s1, .int .i64 s2, .slice M ms.length cm] 35)).alloc (by simp) (.cells #[.int .i64 W2, .int .i64 H2, .slice C2 cs2.length cc2, .int .i64 X2, .int .i64 Y2, .int .i64 At2, .int .i64 Tp2, .int .i64 Bt2, .bool wr2, .bool au2, .bool hi2, .bool al2, .int .i64 s02, .int .i64 s12, .int .i64 s22, .slice M2 ms2.length cm2] 35)
    go_enter Try.func25, Try.ntmps25
    go_wp2_with fail
    refine (HC.out _ bb).mono ?_
    rintro e w1 ⟨rfl, b1⟩
    go_wp2
    go_ret2
    exact ⟨none, 0, rfl, World.ownsRow_nil _ _ _ _, bb.trans (b1.mono bb.size)⟩
  · have h2 : gOk t = false := by rw [h1] at h; exact h
    have HC := Lib.hid (fun W (b : Below w.heap.size w W) => check_ok (hat.below b hup) (Nat.le_trans hup b.size) hl h1)
    have HC2 := Lib.hid (fun W (b : Below w.heap.size w W) => check_bad (hat2.below b hup2) (Nat.le_trans hup2 b.size) hl2 h2)
    clear h1 h2 h hat hat2 hl hl2
    obtain ⟨W, H, X, Y, At, Tp, Bt, wr, au, hi, al, s0, s1, s2, cs, ms⟩ := s
    obtain ⟨W2, H2, X2, Y2, At2, Tp2, Bt2, wr2, au2, hi2, al2, s02, s12, s22, cs2, ms2⟩ := t
    unfold Scr.v at HC HC2 ⊢
    simp only at HC HC2 ⊢
    have bb := ((Below.refl w.heap.size w).alloc (Nat.le_refl _) (.cells #[.int .i64 W, .int .i64 H, .slice C cs.length cc, .int .i64 X, .int .i64 Y, .int .i64 At, .int .i64 Tp, .int .i64 Bt, .bool wr, .bool au, .bool hi, .bool al, .int .i64 s0, .int .i64 s1, .int .i64 s2, .slice M ms.length cm] 35)).alloc (by simp) (.cells #[.int .i64 W2, .int .i64 H2, .slice C2 cs2.length cc2, .int .i64 X2, .int .i64 Y2, .int .i64 At2, .int .i64 Tp2, .int .i64 Bt2, .bool wr2, .bool au2, .bool hi2, .bool al2, .int .i64 s02, .int .i64 s12, .int .i64 s22, .slice M2 ms2.length cm2] 35)
    have k2 := Blk.new (w.alloc (.cells #[.int .i64 W, .int .i64 H, .slice C cs.length cc, .int .i64 X, .int .i64 Y, .int .i64 At, .int .i64 Tp, .int .i64 Bt, .bool wr, .bool au, .bool hi, .bool al, .int .i64 s0, .int .i64 s1, .int .i64 s2, .slice M ms.length cm] 35)) 35 #[.int .i64 W2, .int .i64 H2, .slice C2 cs2.length cc2, .int .i64 X2, .int .i64 Y2, .int .i64 At2, .int .i64 Tp2, .int .i64 Bt2, .bool wr2, .bool au2, .bool hi2, .bool al2, .int .i64 s02, .int .i64 s12, .int .i64 s22, .slice M2 ms2.length cm2] (g := w.heap.size + 1) (by simp)
    go_enter Try.func25, Try.ntmps25
    go_wp2_with fail
    refine (HC.out _ bb).mono ?_
    rintro e w1 ⟨rfl, b1⟩
    have bb1 := bb.trans (b1.mono bb.size)
    have ⟨kc, ke⟩ := (k2.later b1).rules
    clear b1 bb k2
    go_wp2_with fail
    refine (HC2.out _ bb1).mono ?_
    rintro e w2 ⟨rfl, b2⟩
    go_wp2
    go_ret2
    exact ⟨none, 0, rfl, World.ownsRow_nil _ _ _ _, bb1.trans (b2.mono bb1.size)⟩

set_option maxHeartbeats 8000000 in
set_option maxRecDepth 100000 in
theorem diff_yes {lo up lo2 up2 : Nat} {s t : Scr} {C M C2 M2 : Option Addr} {cc cm cc2 cm2 : Nat} {w : World} (hat : ScrAt w lo up s C cc M cm) (hup : up ≤ w.heap.size) (hat2 : ScrAt w lo2 up2 t C2 cc2 M2 cm2) (hup2 : up2 ≤ w.heap.size) (hl : s.Len) (hl2 : t.Len) (h1 : gOk s = true) (h2 : gOk t = true)
    (n : Nat) (hn : t.W * t.H = n) (hn4 : n ≤ 4096) (hg1 : (dGround s t.W t.H).1.length = t.cs.length) (hg2 : t.al = true → (dGround s t.W t.H).2.length = t.ms.length) (hcl : t.cs.length ≤ 4096) (hml : t.ms.length ≤ 4096)
    (hB : ∀ x ∈ dNums s t, -9223372036854775808 ≤ x ∧ x ≤ 9223372036854775807) :
    Calls Try.prog 25 #[.agg (s.v C cc M cm), .agg (t.v C2 cc2 M2 cm2)] w (RetBE w (vJoin (dNums s t)).1 (vJoin (dNums s t)).2) := by
  obtain ⟨i0, hi0, hz0, hz1, hz2⟩ := info_parts info3
  have HC := Lib.hid (fun W (b : Below w.heap.size w W) => check_ok (hat.below b hup) (Nat.le_trans hup b.size) hl h1)
  have HC2 := Lib.hid (fun W (b : Below w.heap.size w W) => check_ok (hat2.below b hup2) (Nat.le_trans hup2 b.size) hl2 h2)
  have HG := Lib.hid (fun W (b : Below w.heap.size w W) => grounds_any (a := t.W) (b := t.H) (hat.below b hup) (Nat.le_trans hup b.size) (by omega))
  have HH := Lib.hid (fun W => head_any (s := t) (C := C2) (M := M2) (cc := cc2) (cm := cm2) (w := W))
  have HAT := Lib.hid hat2
  have HJ := Lib.hid (fun W lo up A c (h : Sl W lo up 1 A (dNums s t).length c (intCells (dNums s t))) hu => join_any (w := W) h hu (by
    have e1 := chg_size (dGround s t.W t.H).1 t.cs
    have e2 := chg_size (dGround s t.W t.H).2 t.ms
    unfold dNums dHead
    simp only [List.length_append, List.length_cons, List.length_nil]
    split <;> (try simp only [List.length_nil]) <;> omega) hB)
  have HG1 := Lib.hid hg1
  have HG2 := Lib.hid hg2
  clear hat hat2 hl hl2 h1 h2 hB hn hg1 hg2
  generalize hJ : vJoin (dNums s t) = J at *
  have HNum : Hid (dNums s t = dHead t ++ dChg (dGround s t.W t.H).1 t.cs ++ (if t.al then dChg (dGround s t.W t.H).2 t.ms else [])) := Lib.hid rfl
  have HdH : Hid ((dHead t).length = 11) := Lib.hid rfl
  generalize dNums s t = NN at *
  generalize dHead t = HD at *
  generalize dGround s t.W t.H = G at *
  obtain ⟨G1, G2⟩ := G
  obtain ⟨W, H, X, Y, At, Tp, Bt, wr, au, hi, al, s0, s1, s2, cs, ms⟩ := s
  obtain ⟨W2, H2, X2, Y2, At2, Tp2, Bt2, wr2, au2, hi2, al2, s02, s12, s22, cs2, ms2⟩ := t
  unfold Scr.v at HC HC2 HG HH ⊢
  simp only at *
  have bb := ((Below.refl w.heap.size w).alloc (Nat.le_refl _) (.cells #[.int .i64 W, .int .i64 H, .slice C cs.length cc, .int .i64 X, .int .i64 Y, .int .i64 At, .int .i64 Tp, .int .i64 Bt, .bool wr, .bool au, .bool hi, .bool al, .int .i64 s0, .int .i64 s1, .int .i64 s2, .slice M ms.length cm] 35)).alloc (by simp) (.cells #[.int .i64 W2, .int .i64 H2, .slice C2 cs2.length cc2, .int .i64 X2, .int .i64 Y2, .int .i64 At2, .int .i64 Tp2, .int .i64 Bt2, .bool wr2, .bool au2, .bool hi2, .bool al2, .int .i64 s02, .int .i64 s12, .int .i64 s22, .slice M2 ms2.length cm2] 35)
  have k1 := (Blk.new w 35 #[.int .i64 W, .int .i64 H, .slice C cs.length cc, .int .i64 X, .int .i64 Y, .int .i64 At, .int .i64 Tp, .int .i64 Bt, .bool wr, .bool au, .bool hi, .bool al, .int .i64 s0, .int .i64 s1, .int .i64 s2, .slice M ms.length cm] rfl).alloc (.cells #[.int .i64 W2, .int .i64 H2, .slice C2 cs2.length cc2, .int .i64 X2, .int .i64 Y2, .int .i64 At2, .int .i64 Tp2, .int .i64 Bt2, .bool wr2, .bool au2, .bool hi2, .bool al2, .int .i64 s02, .int .i64 s12, .int .i64 s22, .slice M2 ms2.length cm2] 35)
  have k2 := Blk.new (w.alloc (.cells #[.int .i64 W, .int .i64 H, .slice C cs.length cc, .int .i64 X, .int .i64 Y, .int .i64 At, .int .i64 Tp, .int .i64 Bt, .bool wr, .bool au, .bool hi, .bool al, .int .i64 s0, .int .i64 s1, .int .i64 s2, .slice M ms.length cm] 35)) 35 #[.int .i64 W2, .int .i64 H2, .slice C2 cs2.length cc2, .int .i64 X2, .int .i64 Y2, .int .i64 At2, .int .i64 Tp2, .int .i64 Bt2, .bool wr2, .bool au2, .bool hi2, .bool al2, .int .i64 s02, .int .i64 s12, .int .i64 s22, .slice M2 ms2.length cm2] (g := w.heap.size + 1) (by simp)
  go_enter Try.func25, Try.ntmps25
  go_wp2_with fail
  refine (HC.out _ bb).mono ?_
  rintro e w1 ⟨rfl, b1⟩
  have bb1 := bb.trans (b1.mono bb.size)
  have m1 := k1.later b1
  have m2 := k2.later b1
  have ⟨kc, ke⟩ := m2.rules
  clear b1 bb k1 k2
  go_wp2_with fail
  refine (HC2.out _ bb1).mono ?_
  rintro e w2 ⟨rfl, b2⟩
  have bb2 := bb1.trans (b2.mono bb1.size)
  have q1 := m1.later b2
  have q2 := m2.later b2
  clear b2 bb1 m1 m2 kc ke
  have ⟨kc1, ke1⟩ := q1.rules
  have ⟨kc, ke⟩ := q2.rules
  go_wp2_with fail
  refine (HG.out _ bb2).mono ?_
  rintro e w3 ⟨A1, c1, A2, c2, rfl, sg1, sg2, b3⟩
  have bb3 := bb2.trans (b3.mono bb2.size)
  have p2 := q2.later b3
  clear b3 bb2 q1 q2 kc ke kc1 ke1
  have ⟨kc, ke⟩ := p2.rules
  go_upto_region 4 with fail
  have HCH := Lib.hid (fun X (b : Below w3.heap.size w3 X) => changes_any (f := G1) (t := cs2) (w := X) (sg1.below b (Nat.le_refl _)) b.size (HAT.out.c.below (bb3.trans (b.mono bb3.size)) hup2) (Nat.le_trans hup2 (bb3.trans (b.mono bb3.size)).size) HG1.out (Nat.le_trans hcl (by omega)))
  have HDl : HD.length ≤ 11 := by rw [HdH.out]; exact Nat.le_refl _
  have HCl : (dChg G1 cs2).length ≤ 20000 := by have := chg_size G1 cs2; omega
  have b00 : Below w3.heap.size w3 w3 := Below.refl _ _
  clear kc ke
  go_region_held3 (fun w' => w'.cell? ⟨w.heap.size + 1, 0, none⟩ = some (.int .i64 W2) ∧ w'.cell? ⟨w.heap.size + 1, 1, none⟩ = some (.int .i64 H2) ∧ w'.cell? ⟨w.heap.size + 1, 2, none⟩ = some (.slice C2 cs2.length cc2) ∧ w'.cell? ⟨w.heap.size + 1, 3, none⟩ = some (.int .i64 X2) ∧ w'.cell? ⟨w.heap.size + 1, 4, none⟩ = some (.int .i64 Y2) ∧ w'.cell? ⟨w.heap.size + 1, 5, none⟩ = some (.int .i64 At2) ∧ w'.cell? ⟨w.heap.size + 1, 6, none⟩ = some (.int .i64 Tp2) ∧ w'.cell? ⟨w.heap.size + 1, 7, none⟩ = some (.int .i64 Bt2) ∧ w'.cell? ⟨w.heap.size + 1, 8, none⟩ = some (.bool wr2) ∧ w'.cell? ⟨w.heap.size + 1, 9, none⟩ = some (.bool au2) ∧ w'.cell? ⟨w.heap.size + 1, 10, none⟩ = some (.bool hi2) ∧ w'.cell? ⟨w.heap.size + 1, 11, none⟩ = some (.bool al2) ∧ w'.cell? ⟨w.heap.size + 1, 12, none⟩ = some (.int .i64 s02) ∧ w'.cell? ⟨w.heap.size + 1, 13, none⟩ = some (.int .i64 s12) ∧ w'.cell? ⟨w.heap.size + 1, 14, none⟩ = some (.int .i64 s22) ∧ w'.cell? ⟨w.heap.size + 1, 15, none⟩ = some (.slice M2 ms2.length cm2)) (first | exact ⟨p2.rules.1 0, p2.rules.1 1, p2.rules.1 2, p2.rules.1 3, p2.rules.1 4, p2.rules.1 5, p2.rules.1 6, p2.rules.1 7, p2.rules.1 8, p2.rules.1 9, p2.rules.1 10, p2.rules.1 11, p2.rules.1 12, p2.rules.1 13, p2.rules.1 14, p2.rules.1 15⟩ | exact ⟨k4.rules.1 0, k4.rules.1 1, k4.rules.1 2, k4.rules.1 3, k4.rules.1 4, k4.rules.1 5, k4.rules.1 6, k4.rules.1 7, k4.rules.1 8, k4.rules.1 9, k4.rules.1 10, k4.rules.1 11, k4.rules.1 12, k4.rules.1 13, k4.rules.1 14, k4.rules.1 15⟩ | exact ⟨k5.rules.1 0, k5.rules.1 1, k5.rules.1 2, k5.rules.1 3, k5.rules.1 4, k5.rules.1 5, k5.rules.1 6, k5.rules.1 7, k5.rules.1 8, k5.rules.1 9, k5.rules.1 10, k5.rules.1 11, k5.rules.1 12, k5.rules.1 13, k5.rules.1 14, k5.rules.1 15⟩ | exact ⟨k6.rules.1 0, k6.rules.1 1, k6.rules.1 2, k6.rules.1 3, k6.rules.1 4, k6.rules.1 5, k6.rules.1 6, k6.rules.1 7, k6.rules.1 8, k6.rules.1 9, k6.rules.1 10, k6.rules.1 11, k6.rules.1 12, k6.rules.1 13, k6.rules.1 14, k6.rules.1 15⟩ | go_keep)
    ((first
      | (go_at_call 57; refine (HH.out _).mono ?_; rintro e w4 ⟨A3, c3, rfl, own3, hb3⟩; have b04 : Below w3.heap.size w3 w4 := (by first | exact Below.trans b00 hb3 | exact Below.trans b00.drew hb3 | exact Below.trans b05 (hb3.mono b05.size) | exact Below.trans b05.drew (hb3.mono b05.size)); have k4 : Blk w4 (w.heap.size + 1) 35 #[.int .i64 W2, .int .i64 H2, .slice C2 cs2.length cc2, .int .i64 X2, .int .i64 Y2, .int .i64 At2, .int .i64 Tp2, .int .i64 Bt2, .bool wr2, .bool au2, .bool hi2, .bool al2, .int .i64 s02, .int .i64 s12, .int .i64 s22, .slice M2 ms2.length cm2] := p2.later b04; try have own4 := own_below own4 hb3 (by first | exact Nat.le_refl _ | simp))
      | (go_at_call 58; refine (HCH.out _ (by first | exact b00 | exact b00.drew | exact b04 | exact b04.drew)).mono ?_; rintro e w5 ⟨A4, c4, rfl, own4, hb4⟩; have b05 : Below w3.heap.size w3 w5 := (by first | exact Below.trans b00 hb4 | exact Below.trans b00.drew hb4 | exact Below.trans b04 (hb4.mono b04.size) | exact Below.trans b04.drew (hb4.mono b04.size)); have k5 : Blk w5 (w.heap.size + 1) 35 #[.int .i64 W2, .int .i64 H2, .slice C2 cs2.length cc2, .int .i64 X2, .int .i64 Y2, .int .i64 At2, .int .i64 Tp2, .int .i64 Bt2, .bool wr2, .bool au2, .bool hi2, .bool al2, .int .i64 s02, .int .i64 s12, .int .i64 s22, .slice M2 ms2.length cm2] := p2.later b05; try have own3 := own_below own3 hb4 (by first | exact Nat.le_refl _ | simp))
      | (refine step_append_sl _ rfl (.tmp 27) (.tmp 31) 88 rfl w3.heap.size 3 i0 _ 1 8 Try.underlying88 hi0 hz0 hz1 hz2 rfl (by omega) (.slice A3 HD.length c3) HD.length (intCells HD) (by simp [Act.eval, Act.put]) (own_more own3 (by first | exact Nat.le_refl _ | exact b05.size | simp)) 0 _ A4 (dChg G1 cs2).length c4 (intCells (dChg G1 cs2)) (by simp [Act.eval, Act.put]) ((Sl.of_own own4).more (Nat.zero_le _) (Nat.le_refl _)) (intCells_one _) (HD.length + (dChg G1 cs2).length) rfl _ rfl (by unfold maxLen; omega) (by omega) (by first | exact b05.size | exact b04.size | simp) ?_; intro A5 c5 w6 own5 hg5; have b06 : Below w3.heap.size w3 w6 := Below.grown (by first | exact b05 | exact b04 | exact b05.drew | exact b04.drew) hg5 (by first | exact b05.size | exact b04.size) (fun k e => ((own_more (base' := w3.heap.size) own3 (by first | exact Nat.le_refl _ | exact b05.size | simp)).lt k e).1); have k6 : Blk w6 (w.heap.size + 1) 35 #[.int .i64 W2, .int .i64 H2, .slice C2 cs2.length cc2, .int .i64 X2, .int .i64 Y2, .int .i64 At2, .int .i64 Tp2, .int .i64 Bt2, .bool wr2, .bool au2, .bool hi2, .bool al2, .int .i64 s02, .int .i64 s12, .int .i64 s22, .slice M2 ms2.length cm2] := p2.later b06)))
  have own6 : w6.ownsRow w3.heap.size 3 1 (.slice A5 (HD.length + (dChg G1 cs2).length) c5) (HD.length + (dChg G1 cs2).length) (intCells (HD ++ dChg G1 cs2)) := by rw [intCells_append]; exact own5
  obtain ⟨L5, hL5⟩ : ∃ L5, L5 = HD ++ dChg G1 cs2 := ⟨_, rfl⟩
  have eL : HD.length + (dChg G1 cs2).length = L5.length := by rw [hL5, List.length_append]
  have hL5l : L5.length ≤ 20011 := by omega
  rw [eL, ← hL5] at own6
  rw [eL]
  have hNum := HNum.out
  rw [← hL5] at hNum
  have z6 := b06.size
  have bb6 := bb3.trans (b06.mono bb3.size)
  have ⟨kc6, ke6⟩ := k6.rules
  have HCM := Lib.hid (fun (h : al2 = true) => changes_any (f := G2) (t := ms2) (w := w6) (sg2.below b06 (Nat.le_refl _)) b06.size (HAT.out.m.below bb6 hup2) (Nat.le_trans hup2 bb6.size) (HG2.out h) (Nat.le_trans hml (by omega)))
  have HC2l : (dChg G2 ms2).length ≤ 20000 := by have := chg_size G2 ms2; omega
  clear hL5 eL own5 hg5 HNum HG1 HG2 HCH HC HC2 HG HH k6 p2 b00 sg1 sg2 HCl HDl HdH
  cases al2
  · simp only [Bool.false_eq_true, if_false, List.append_nil] at hNum
    subst hNum
    go_wp2_with fail
    refine (HJ.out _ 0 w6.heap.size A5 c5 ((Sl.of_own own6).more (Nat.zero_le _) (Nat.le_refl _)) (Nat.le_refl _)).mono ?_
    rintro e w7 ⟨A7, c7, rfl, own7, b7⟩
    go_wp2_with fail
    go_ret2
    exact ⟨A7, c7, rfl, own_more own7 bb6.size, bb6.trans (b7.mono bb6.size)⟩
  · simp only [if_true] at hNum
    go_wp2_with fail
    refine (HCM.out trivial).mono ?_
    rintro e w7 ⟨A7, c7, rfl, own7, b7⟩
    have o6 := own_below own6 b7 (Nat.le_refl _)
    have z7 := b7.size
    have s7 := (Sl.of_own own7).more (lo' := 0) (Nat.zero_le _) (Nat.le_refl _)
    have bb7 := bb6.trans (b7.mono bb6.size)
    go_wp2_with (at_builtin; refine wpList_append_sl _ rfl (.tmp 35) (.tmp 39) 88 rfl w3.heap.size 3 i0 _ 1 8 Try.underlying88 hi0 hz0 hz1 hz2 rfl (by omega) (.slice A5 L5.length c5) L5.length (intCells L5) rfl o6 0 w7.heap.size A7 (dChg G2 ms2).length c7 (intCells (dChg G2 ms2)) rfl s7 (intCells_one _) (L5.length + (dChg G2 ms2).length) rfl _ rfl (by unfold maxLen; omega) (by omega) (by omega) ?_; intro A8 c8 w8 own8 hg8)
    have own9 : w8.ownsRow w3.heap.size 3 1 (.slice A8 (L5.length + (dChg G2 ms2).length) c8) (L5.length + (dChg G2 ms2).length) (intCells NN) := by rw [hNum, intCells_append]; exact own8
    have eN : L5.length + (dChg G2 ms2).length = NN.length := by rw [hNum, List.length_append]
    have hrow : ∀ k, Value.ownBlock (.slice A5 L5.length c5) = some k → w.heap.size ≤ k := fun k e => by have := (o6.lt k e).1; have := bb3.size; omega
    have bb8 := bb7.grown hg8 bb7.size hrow
    rw [eN] at own9 ⊢
    clear hNum eN hg8 own8 hrow o6 own6 own7 b7 s7
    refine (HJ.out _ 0 w8.heap.size A8 c8 ((Sl.of_own own9).more (Nat.zero_le _) (Nat.le_refl _)) (Nat.le_refl _)).mono ?_
    rintro e w9 ⟨A9, c9, rfl, own10, b9⟩
    go_wp2_with fail
    go_ret2
    exact ⟨A9, c9, rfl, own_more own10 bb8.size, bb8.trans (b9.mono bb8.size)⟩
end

/- Diff, whole: of whatever screens; plain laws on its numbers. -/
section
open Go.RowKit
set_option linter.unusedVariables false
set_option linter.unusedSimpArgs false

theorem cNums_bnd {l : List (Int × Int)} (h : ∀ c ∈ l, cOk c = true) : ∀ x ∈ cNums l, 0 ≤ x ∧ x ≤ 1114111 := by
  induction l with
  | nil => intro x hx; cases hx
  | cons c l ih =>
    intro x hx
    have hc := h c (List.mem_cons_self ..)
    simp only [cOk, Bool.and_eq_true, inB_true] at hc
    simp only [cNums, List.mem_cons] at hx
    rcases hx with rfl | rfl | hx
    · omega
    · omega
    · exact ih (fun c hc => h c (List.mem_cons_of_mem _ hc)) x hx
theorem rNums_bnd {N : Nat} {l : List Rw} (hN : N ≤ 4096) (h : ∀ r ∈ l, r.s ≤ N ∧ r.l.length ≤ N ∧ ∀ c ∈ r.l, cOk c = true) : ∀ x ∈ rNums l, 0 ≤ x ∧ x ≤ 1114111 := by
  induction l with
  | nil => intro x hx; cases hx
  | cons r l ih =>
    intro x hx
    obtain ⟨h1, h2, h3⟩ := h r (List.mem_cons_self ..)
    simp only [rNums, List.mem_cons, List.mem_append] at hx
    rcases hx with rfl | rfl | hx | hx
    · omega
    · omega
    · exact cNums_bnd h3 x hx
    · exact ih (fun r hr => h r (List.mem_cons_of_mem _ hr)) x hx
theorem chg_bnd {f t : List (Int × Int)} (hN : t.length ≤ 4096) (h : ∀ c ∈ t, cOk c = true) : ∀ x ∈ dChg f t, 0 ≤ x ∧ x ≤ 1114111 := by
  intro x hx
  have hs := (rows_size (t.length + 1) 0 f t).1
  simp only [dChg, List.mem_cons] at hx
  rcases hx with rfl | hx
  · have : (dRows 0 f t).length ≤ t.length := hs
    omega
  · refine rNums_bnd hN (fun r hr => ?_) x hx
    obtain ⟨h1, h2, h3, h4⟩ := rows_mem t r (t.length + 1) 0 f (Nat.zero_le _) hr
    exact ⟨by omega, by omega, fun c hc => h c (List.mem_of_mem_drop (List.mem_of_mem_take (by rw [h2]; exact hc)))⟩
theorem mayB_true {l : List (Int × Int)} {n : Int} (h : mayB l n = true) : (l.length : Int) = n ∧ ∀ c ∈ l, cOk c = true := by
  simp only [mayB, Bool.and_eq_true, decide_eq_true_iff] at h
  exact ⟨h.1, fun c hc => List.all_eq_true.1 h.2 c hc⟩
/-- What a screen that may be is. -/
theorem gOk_parts {s : Scr} (h : gOk s = true) : ((1 ≤ s.W ∧ s.W ≤ 64) ∧ (1 ≤ s.H ∧ s.H ≤ 64)) ∧ ((s.cs.length : Int) = s.W * s.H ∧ ∀ c ∈ s.cs, cOk c = true) ∧ ((s.ms.length : Int) = (if s.al then s.W * s.H else 0) ∧ ∀ c ∈ s.ms, cOk c = true) ∧
    ((0 ≤ s.X ∧ s.X ≤ s.W - 1) ∧ (0 ≤ s.Y ∧ s.Y ≤ s.H - 1) ∧ (0 ≤ s.At ∧ s.At ≤ 2047)) ∧ ((0 ≤ s.Tp ∧ s.Tp ≤ s.Bt) ∧ s.Bt < s.H) ∧ ((0 ≤ s.s0 ∧ s.s0 ≤ 63) ∧ (0 ≤ s.s1 ∧ s.s1 ≤ 63) ∧ (0 ≤ s.s2 ∧ s.s2 ≤ 2047)) := by
  simp only [gOk, gPlaces, gCur, gRows, gSaved, Bool.and_eq_true, inB_true, decide_eq_true_iff] at h
  obtain ⟨⟨⟨⟨h1, h2, h3⟩, ⟨h4, h5⟩, h6⟩, h7, h8⟩, ⟨h9, h10⟩, h11⟩ := h
  exact ⟨gsides h1, mayB_true h2, mayB_true h3, ⟨h4, h5, h6⟩, ⟨h7, h8⟩, h9, h10, h11⟩
theorem gOk_ms {s : Scr} (h : gOk s = true) : s.ms.length ≤ 4096 := by
  obtain ⟨h1, h2, h3, _⟩ := gOk_parts h
  have := area h1
  have h4 := h3.1
  split at h4 <;> omega
theorem ground_len {s t : Scr} (h1 : gOk s = true) (h2 : gOk t = true) : (dGround s t.W t.H).1.length = t.cs.length ∧ (t.al = true → (dGround s t.W t.H).2.length = t.ms.length) := by
  obtain ⟨a1, a2, a3, _⟩ := gOk_parts h1
  obtain ⟨b1, b2, b3, _⟩ := gOk_parts h2
  have ar := area b1
  unfold dGround
  by_cases h : s.W = t.W ∧ s.H = t.H
  · rw [if_pos h]
    obtain ⟨e1, e2⟩ := h
    rw [e1, e2] at a2 a3
    have x1 := a2.1
    have x2 := b2.1
    have x3 := a3.1
    have x4 := b3.1
    refine ⟨by show s.cs.length = t.cs.length; omega, fun hal => ?_⟩
    rw [hal, if_pos rfl] at x4
    cases hs : s.al
    · simp only [Bool.false_eq_true, if_false, blanks_length]; omega
    · rw [hs, if_pos rfl] at x3
      simp only [if_true]; omega
  · rw [if_neg h]
    have x2 := b2.1
    have x4 := b3.1
    refine ⟨by simp only [blanks_length]; omega, fun hal => ?_⟩
    rw [hal, if_pos rfl] at x4
    simp only [blanks_length]; omega
theorem bits_bnd (s : Scr) : 0 ≤ dBits s ∧ dBits s ≤ 15 := by
  unfold dBits
  split <;> split <;> split <;> split <;> omega
theorem nums_bnd {s t : Scr} (h2 : gOk t = true) : ∀ x ∈ dNums s t, 0 ≤ x ∧ x ≤ 1114111 := by
  obtain ⟨b1, b2, b3, b4, b5, b6⟩ := gOk_parts h2
  have ar := area b1
  have hm := gOk_ms h2
  have hb := bits_bnd t
  intro x hx
  unfold dNums dHead at hx
  simp only [List.mem_append, List.mem_cons, List.not_mem_nil, or_false] at hx
  rcases hx with (hx | hx) | hx
  · rcases hx with rfl | rfl | rfl | rfl | rfl | rfl | rfl | rfl | rfl | rfl | rfl <;> omega
  · exact chg_bnd (by omega) b2.2 x hx
  · split at hx
    · exact chg_bnd hm b3.2 x hx
    · cases hx
theorem diff_any {lo up lo2 up2 : Nat} {s t : Scr} {C M C2 M2 : Option Addr} {cc cm cc2 cm2 : Nat} {w : World} (hat : ScrAt w lo up s C cc M cm) (hup : up ≤ w.heap.size) (hat2 : ScrAt w lo2 up2 t C2 cc2 M2 cm2) (hup2 : up2 ≤ w.heap.size) (hl : s.Len) (hl2 : t.Len) :
    Calls Try.prog 25 #[.agg (s.v C cc M cm), .agg (t.v C2 cc2 M2 cm2)] w (RetBE w (dDiff' s t).1 (dDiff' s t).2) := by
  unfold dDiff'
  cases h : (gOk s && gOk t)
  · exact diff_no hat hup hat2 hup2 hl hl2 h
  · simp only [Bool.and_eq_true] at h
    obtain ⟨h1, h2⟩ := h
    obtain ⟨b1, b2, _⟩ := gOk_parts h2
    have ar := area b1
    have hg := ground_len h1 h2
    have x2 := b2.1
    exact diff_yes hat hup hat2 hup2 hl hl2 h1 h2 (t.W * t.H).toNat (by omega) (by omega) hg.1 hg.2 (by omega) (gOk_ms h2) (fun x hx => by have := nums_bnd (s := s) h2 x hx; omega)
end
end Go.Proofs.Ytfeeincglijmjaa
