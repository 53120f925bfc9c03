/- Texts of this seat, one behind the other. -/
import Derived.Test.YtfeeincglijmjaaSB
import Derived.Test.YtfeeincglijmjaaGD
namespace Go.Proofs.Ytfeeincglijmjaa
open Go.RowKit
set_option linter.unusedVariables false
set_option linter.unusedSimpArgs false
attribute [local go_sem ↓] Go.wp_at_zero Go.wp_at_succ

/-- May screens be, behind a number? -/
def sOkF : Int → List (Int × Scr) → Bool
  | _, [] => true
  | was, x :: l => decide (was < x.1) && decide (x.1 ≤ 4611686018427387903) && gOk x.2 && sOkF x.1 l
/-- May they be? -/
def sCheck (l : List (Int × Scr)) : Bool := sOkF (-1) l && (decide (0 < l.length) && decide (l.length ≤ 8))
theorem range_cells {w : World} {b p : Nat} {x : Shn} (h : w.rangeAt b p x.v.toList) : w.cell? ⟨b, p, none⟩ = some (.int .i64 x.num) ∧ w.cell? ⟨b, p + 1, none⟩ = some (.int .i64 x.s.W) ∧ w.cell? ⟨b, p + 2, none⟩ = some (.int .i64 x.s.H) ∧ w.cell? ⟨b, p + 3, none⟩ = some (.slice x.C x.s.cs.length x.cc) ∧ w.cell? ⟨b, p + 4, none⟩ = some (.int .i64 x.s.X) ∧ w.cell? ⟨b, p + 5, none⟩ = some (.int .i64 x.s.Y) ∧ w.cell? ⟨b, p + 6, none⟩ = some (.int .i64 x.s.At) ∧ w.cell? ⟨b, p + 7, none⟩ = some (.int .i64 x.s.Tp) ∧ w.cell? ⟨b, p + 8, none⟩ = some (.int .i64 x.s.Bt) ∧ w.cell? ⟨b, p + 9, none⟩ = some (.bool x.s.wr) ∧ w.cell? ⟨b, p + 10, none⟩ = some (.bool x.s.au) ∧ w.cell? ⟨b, p + 11, none⟩ = some (.bool x.s.hi) ∧ w.cell? ⟨b, p + 12, none⟩ = some (.bool x.s.al) ∧ w.cell? ⟨b, p + 13, none⟩ = some (.int .i64 x.s.s0) ∧ w.cell? ⟨b, p + 14, none⟩ = some (.int .i64 x.s.s1) ∧ w.cell? ⟨b, p + 15, none⟩ = some (.int .i64 x.s.s2) ∧ w.cell? ⟨b, p + 16, none⟩ = some (.slice x.M x.s.ms.length x.cm) :=
  ⟨h 0 _ rfl, h 1 _ rfl, h 2 _ rfl, h 3 _ rfl, h 4 _ rfl, h 5 _ rfl, h 6 _ rfl, h 7 _ rfl, h 8 _ rfl, h 9 _ rfl, h 10 _ rfl, h 11 _ rfl, h 12 _ rfl, h 13 _ rfl, h 14 _ rfl, h 15 _ rfl, h 16 _ rfl⟩
theorem sOk_step {was : Int} {l : List Shn} {i : Nat} (h : i < l.length) : sOkF was ((l.map Shn.p).drop i) = (decide (was < l[i].num) && decide (l[i].num ≤ 4611686018427387903) && gOk l[i].s && sOkF l[i].num ((l.map Shn.p).drop (i + 1))) := by
  rw [List.drop_eq_getElem_cons (by simpa using h), List.getElem_map]
  rfl

set_option maxHeartbeats 16000000 in
set_option maxRecDepth 100000 in
theorem scheck_any {up : Nat} {A : Option Addr} {n c : Nat} {l : List Shn} {w : World} (hr : Shs w up A n c l) (hup : up ≤ w.heap.size) (hn : n ≤ 9223372036854775807) :
    Calls Try.prog 33 #[.slice A n c] w fun e w' => e = .returned (.bool (sCheck (l.map Shn.p))) ∧ Below w.heap.size w w' := by
  have hlen := hr.len
  subst hlen
  have HR := Lib.hid hr
  obtain ⟨R, hR⟩ : ∃ R, R = sCheck (l.map Shn.p) := ⟨_, rfl⟩
  rw [← hR]
  unfold sCheck at hR
  rw [List.length_map] at hR
  have HRR := Lib.hid hR
  clear hr hR
  go_enter Try.func33, Try.ntmps33
  go_wp2_with fail
  go_loopg [3, 8] l.length (fun gh s3 s8 wr => ∃ (i : Nat) (was : Int), gh = l.length - i ∧ i ≤ l.length ∧ s3 = .int .i64 was ∧ s8 = .int .i64 i ∧ Below w.heap.size w wr ∧ Hid (sOkF (-1) (l.map Shn.p) = sOkF was ((l.map Shn.p).drop i)))
  case atStart => exact ⟨0, -1, by omega, by omega, rfl, rfl, Below.refl _ _, Lib.hid rfl⟩
  case round =>
    obtain ⟨i, was, hgm, hi, rfl, rfl, bb, hno⟩ := hrel
    have z0 := bb.size
    have HGM := Lib.hid hgm
    clear hgm
    by_cases h : i < l.length
    · have hO := HR.out.below bb hup
      obtain ⟨b, o, rfl, hgu, hc⟩ := hO.cell (by omega)
      have hc := hc i h
      have a1 := addr_add b o (i * 17)
      have hok := hO.ok l[i] (List.getElem_mem h)
      have hno2 := hno.out
      rw [sOk_step h] at hno2
      have Hno := Lib.hid hno2
      have hiI : (i : Int) < l.length := by omega
      clear hno hno2 hO
      generalize l[i] = x at *
      obtain ⟨W4, hst, kb, b4, z4⟩ := shn_new wr x
      have hc2 := hc
      have hok4 := hok.below b4 (Nat.le_trans hup z0)
      have HC := Lib.hid (check_any hok4.1 (by omega) hok4.2)
      have bb4 := bb.trans (b4.mono z0)
      have ⟨kc, kf⟩ := (show (∀ j, W4.cell? ⟨wr.heap.size, j, none⟩ = (#[.int .i64 x.num, .int .i64 x.s.W, .int .i64 x.s.H, .slice x.C x.s.cs.length x.cc, .int .i64 x.s.X, .int .i64 x.s.Y, .int .i64 x.s.At, .int .i64 x.s.Tp, .int .i64 x.s.Bt, .bool x.s.wr, .bool x.s.au, .bool x.s.hi, .bool x.s.al, .int .i64 x.s.s0, .int .i64 x.s.s1, .int .i64 x.s.s2, .slice x.M x.s.ms.length x.cm] : Array Value)[j]?) ∧ (∀ i, W4.frozen? ⟨wr.heap.size, i, none⟩ = false) from kb.rules)
      have ab0 := addr_add wr.heap.size 0
      have ab1 := addr_add wr.heap.size (0 + 1)
      have ab1' := addr_add wr.heap.size 1
      clear kb hok hok4 hc
      by_cases t1 : x.num ≤ was
      · have hf : R = false := by rw [HRR.out, Hno.out]; have : ¬ (was < x.num) := by omega
                                  simp [this]
        clear Hno HC
        go_wp2_with (first | ((with_reducible refine wpList_ldh hc2 ?_ ?_); rfl) | ((with_reducible refine wpList_sth hst ?_ ?_); exact ⟨rfl, rfl⟩))
        go_ret
        exact ⟨by first | rfl | (rw [hf]; rfl), bb4⟩
      · by_cases t2 : 4611686018427387903 < x.num
        · have hf : R = false := by rw [HRR.out, Hno.out]; have : ¬ (x.num ≤ 4611686018427387903) := by omega
                                    simp [this]
          clear Hno HC
          go_wp2_with (first | ((with_reducible refine wpList_ldh hc2 ?_ ?_); rfl) | ((with_reducible refine wpList_sth hst ?_ ?_); exact ⟨rfl, rfl⟩))
          go_ret
          exact ⟨by first | rfl | (rw [hf]; rfl), bb4⟩
        · go_wp2_with (first | ((with_reducible refine wpList_ldh hc2 ?_ ?_); rfl) | ((with_reducible refine wpList_sth hst ?_ ?_); exact ⟨rfl, rfl⟩))
          refine HC.out.mono ?_
          rintro e w5 ⟨rfl, b5⟩
          have bb5 := bb4.trans (b5.mono (by omega))
          have k5 : w5.cell? ⟨wr.heap.size, 0, none⟩ = some (.int .i64 x.num) := (b5.cell (p := ⟨wr.heap.size, 0, none⟩) (by show wr.heap.size < _; omega)).trans (kc 0)
          clear kc kf ab1 ab1' HC
          cases hg : gOk x.s
          · have hf : R = false := by rw [HRR.out, Hno.out, hg]; simp
            clear Hno
            simp only [Bool.false_eq_true, if_false]
            go_wp2_with fail
            go_ret
            exact ⟨by first | rfl | (rw [hf]; rfl), bb5⟩
          · have Hno2 := Lib.hid (show sOkF (-1) (l.map Shn.p) = sOkF x.num ((l.map Shn.p).drop (i + 1)) by
              rw [Hno.out, hg, decide_eq_true (by omega), decide_eq_true (by omega)]; simp)
            clear Hno
            simp only [if_true]
            go_wp2_with fail
            go_roundg (l.length - (i + 1))
            case measure => have := HGM.out; omega
            case rel => exact ⟨i + 1, x.num, rfl, by omega, rfl, by go_num, bb5, Hno2⟩
    · obtain rfl : i = l.length := by omega
      have hfin := hno.out
      rw [List.drop_of_length_le (by simp), sOkF] at hfin
      have hRb : R = (decide (0 < l.length) && decide (l.length ≤ 8)) := by rw [HRR.out, hfin]; simp
      have HRb := Lib.hid hRb
      clear hfin hno hRb HRR
      by_cases t1 : l.length = 0
      · have hf : R = false := by rw [HRb.out, t1]; simp
        have t1I : (l.length : Int) = 0 := by omega
        clear HRb
        go_wp2_with fail
        go_ret
        exact ⟨by first | rfl | (rw [hf]; rfl), bb⟩
      · have t1I : 0 < (l.length : Int) := by omega
        by_cases t2 : l.length ≤ 8
        · have hf : R = true := by rw [HRb.out]; simp; omega
          have t2I : (l.length : Int) ≤ 8 := by omega
          clear HRb
          go_wp2_with fail
          go_ret
          exact ⟨by first | rfl | (rw [hf]; rfl), bb⟩
        · have hf : R = false := by rw [HRb.out]; simp; omega
          have t2I : ¬ ((l.length : Int) ≤ 8) := by omega
          clear HRb
          go_wp2_with fail
          go_ret
          exact ⟨by first | rfl | (rw [hf]; rfl), bb⟩

set_option maxHeartbeats 16000000 in
set_option maxRecDepth 100000 in
theorem rscheck_any {up : Nat} {A : Option Addr} {n c : Nat} {l : List Shn} {w : World} (hr : Shs w up A n c l) (hup : up ≤ w.heap.size) (hn : n ≤ 9223372036854775807) :
    Calls Try.prog 34 #[.slice A n c] w fun e w' => e = .returned (.bool (sCheck (l.map Shn.p))) ∧ Below w.heap.size w w' := by
  have hlen := hr.len
  subst hlen
  have HR := Lib.hid hr
  obtain ⟨R, hR⟩ : ∃ R, R = sCheck (l.map Shn.p) := ⟨_, rfl⟩
  rw [← hR]
  unfold sCheck at hR
  rw [List.length_map] at hR
  have HRR := Lib.hid hR
  clear hr hR
  by_cases t1 : l.length = 0
  · have hf : R = false := by rw [HRR.out, t1]; simp
    have t1I : (l.length : Int) = 0 := by omega
    clear HRR
    go_enter Try.func34, Try.ntmps34
    go_wp2_with fail
    go_ret
    exact ⟨by first | rfl | (rw [hf]; rfl), Below.refl _ _⟩
  by_cases t2 : 8 < l.length
  · have hf : R = false := by rw [HRR.out]; simp; omega
    have t1I : ¬ ((l.length : Int) < 1) := by omega
    have t2I : 8 < (l.length : Int) := by omega
    clear HRR
    go_enter Try.func34, Try.ntmps34
    go_wp2_with fail
    go_ret
    exact ⟨by first | rfl | (rw [hf]; rfl), Below.refl _ _⟩
  have hRb : R = sOkF (-1) (l.map Shn.p) := by rw [HRR.out, decide_eq_true (by omega), decide_eq_true (by omega)]; simp
  have HRb := Lib.hid hRb
  have t1I : ¬ ((l.length : Int) < 1) := by omega
  have t2I : ¬ (8 < (l.length : Int)) := by omega
  clear HRR hRb
  go_enter Try.func34, Try.ntmps34
  go_wp2_with fail
  go_loopg [3, 4] l.length (fun gh s3 s4 wr => ∃ (i : Nat) (was : Int), gh = l.length - i ∧ i ≤ l.length ∧ s3 = .int .i64 was ∧ s4 = .int .i64 i ∧ Below w.heap.size w wr ∧ Hid (sOkF (-1) (l.map Shn.p) = sOkF was ((l.map Shn.p).drop i)))
  case atStart => exact ⟨0, -1, by omega, by omega, rfl, rfl, Below.refl _ _, Lib.hid rfl⟩
  case round =>
    obtain ⟨i, was, hgm, hi, rfl, rfl, bb, hno⟩ := hrel
    have z0 := bb.size
    have HGM := Lib.hid hgm
    clear hgm
    by_cases h : i < l.length
    · have hO := HR.out.below bb hup
      obtain ⟨b, o, rfl, hgu, hc⟩ := hO.cell (by omega)
      have hc := hc i h
      have a1 := addr_add b o (i * 17)
      have hok := hO.ok l[i] (List.getElem_mem h)
      have hno2 := hno.out
      rw [sOk_step h] at hno2
      have Hno := Lib.hid hno2
      have hiI : (i : Int) < l.length := by omega
      clear hno hno2 hO
      generalize l[i] = x at *
      have HC := Lib.hid (rcheck_any hok.1 (by omega) hok.2)
      have ab0 := addr_add b (o + i * 17)
      have ab1 := addr_add b (o + i * 17 + 1)
      obtain ⟨c0, c1, c2, c3, c4, c5, c6, c7, c8, c9, c10, c11, c12, c13, c14, c15, c16⟩ := range_cells hc
      clear hok
      by_cases t1 : x.num ≤ was
      · have hf : R = false := by rw [HRb.out, Hno.out]; have : ¬ (was < x.num) := by omega
                                  simp [this]
        clear Hno HC
        go_wp2_with fail
        go_ret
        exact ⟨by first | rfl | (rw [hf]; rfl), bb⟩
      · by_cases t2 : 4611686018427387904 ≤ x.num
        · have hf : R = false := by rw [HRb.out, Hno.out]; have : ¬ (x.num ≤ 4611686018427387903) := by omega
                                    simp [this]
          clear Hno HC
          go_wp2_with fail
          go_ret
          exact ⟨by first | rfl | (rw [hf]; rfl), bb⟩
        · go_wp2_with fail
          refine HC.out.mono ?_
          rintro e w5 ⟨rfl, b5⟩
          have bb5 := bb.trans (b5.mono (by omega))
          have k5 : w5.cell? ⟨b, o + i * 17, none⟩ = some (.int .i64 x.num) := (b5.cell (p := ⟨b, o + i * 17, none⟩) (by show b < _; omega)).trans c0
          clear c0 c1 c2 c3 c4 c5 c6 c7 c8 c9 c10 c11 c12 c13 c14 c15 c16 HC ab1 hc
          cases hg : gOk x.s
          · have hf : R = false := by rw [HRb.out, Hno.out, hg]; simp
            clear Hno
            simp only [Bool.false_eq_true, if_false]
            go_wp2_with fail
            go_ret
            exact ⟨by first | rfl | (rw [hf]; rfl), bb5⟩
          · have Hno2 := Lib.hid (show sOkF (-1) (l.map Shn.p) = sOkF x.num ((l.map Shn.p).drop (i + 1)) by
              rw [Hno.out, hg, decide_eq_true (by omega), decide_eq_true (by omega)]; simp)
            clear Hno
            simp only [if_true]
            go_wp2_with fail
            go_roundg (l.length - (i + 1))
            case measure => have := HGM.out; omega
            case rel => exact ⟨i + 1, x.num, rfl, by omega, rfl, by go_num, bb5, Hno2⟩
    · obtain rfl : i = l.length := by omega
      have hfin := hno.out
      rw [List.drop_of_length_le (by simp), sOkF] at hfin
      have hf : R = true := by rw [HRb.out, hfin]
      clear hfin hno HRb
      go_wp2_with fail
      go_ret
      exact ⟨by first | rfl | (rw [hf]; rfl), bb⟩
end Go.Proofs.Ytfeeincglijmjaa
