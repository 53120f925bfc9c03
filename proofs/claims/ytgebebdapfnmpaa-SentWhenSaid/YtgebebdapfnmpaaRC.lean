/- The walk of ranges.Check. -/
import Derived.Test.YtgebebdapfnmpaaRA
import Derived.Deep.RegionHeld3
import Derived.Deep.DrawnRows
import Derived.Deep.LoopGhost
import Derived.Deep.QuietTactic
import Derived.RegionTactic
import Derived.ChangeAlike
import Derived.BigRegion
import Derived.Handy
namespace Go.Proofs.Ytgebebdapfnmpaa
open Go.RowKit
set_option linter.unusedVariables false
set_option linter.unusedSimpArgs false
attribute [local go_sem ↓] Go.wp_at_zero Go.wp_at_succ

set_option maxHeartbeats 8000000 in
theorem rcheck_any {lo up : Nat} {A : Option Addr} {n c : Nat} {l : List (Int × Int)} {w : World} (hr : Sl w lo up 2 A n c (rCells l)) (hup : up ≤ w.heap.size) (hn : n ≤ 1000)
    (hl : ∀ p ∈ l, (-9223372036854775808 ≤ p.1 ∧ p.1 ≤ 9223372036854775807) ∧ (-9223372036854775808 ≤ p.2 ∧ p.2 ≤ 9223372036854775807)) (b : Bool) (hb : b = true ↔ rGood l ∧ l.length ≤ 16) :
    Calls Try.prog 25 #[.slice A n c] w fun e w' => e = .returned (.bool b) ∧ Below w.heap.size w w' := by
  have hlen : n = l.length := by have := hr.len; rw [rCells_length] at this; omega
  subst hlen
  have HR := Lib.hid hr
  have HL := Lib.hid hl
  have HB := Lib.hid hb
  clear hr hl hb
  go_enter Try.func25, Try.ntmps25
  go_wp2_with fail
  go_loopg [7] l.length (fun gh s7 wr => ∃ i : Nat, gh = l.length - i ∧ i ≤ l.length ∧ s7 = .int .i64 i ∧ Below w.heap.size w wr ∧ Hid (∀ j (h : j < l.length), j < i → ¬ rBad (if j = 0 then none else l[j - 1]?) l[j]))
  case atStart => exact ⟨0, by omega, by omega, rfl, Below.refl _ _, Lib.hid (fun _ _ h => absurd h (by omega))⟩
  case round =>
    obtain ⟨i, hg, hi, rfl, bb, hall⟩ := hrel
    have z0 := bb.size
    by_cases h : i < l.length
    · obtain ⟨g, o, rfl, hgu, hc⟩ := slr_cell (HR.out.below bb hup) (by omega)
      have k1 := (hc i h).1
      have k2 := (hc i h).2
      have a1 := addr_add g o (i * 2)
      have hx := HL.out l[i] (List.getElem_mem h)
      have hgl : g < wr.heap.size := by omega
      by_cases b1 : l[i].1 < 0
      · have hbad : rBad (if i = 0 then none else l[i - 1]?) l[i] := .inl b1
        have hbf : b = false := by
          cases b with
          | false => rfl
          | true => exact absurd hbad ((HB.out.1 rfl).1 i h)
        clear hbad
        subst hbf
        clear hc hall HB
        generalize l[i].1 = x at *
        generalize l[i].2 = y at *
        go_wp2_with fail
        go_region
        go_wp2
        go_ret
        exact ⟨rfl, (bb.alloc z0 _).drew⟩
      by_cases b2 : l[i].2 < l[i].1
      · have hbad : rBad (if i = 0 then none else l[i - 1]?) l[i] := .inr (.inl b2)
        have hbf : b = false := by
          cases b with
          | false => rfl
          | true => exact absurd hbad ((HB.out.1 rfl).1 i h)
        have d1 : (l[i].1 < 0) = False := eq_false b1
        have d2 : (l[i].2 < l[i].1) = True := eq_true b2
        clear hbad
        subst hbf
        clear hc hall HB
        generalize l[i].1 = x at *
        generalize l[i].2 = y at *
        go_wp2_with fail
        go_region
        go_wp2
        go_ret
        exact ⟨rfl, (bb.alloc z0 _).drew⟩
      by_cases b3 : 4611686018427387903 < l[i].2
      · have hbad : rBad (if i = 0 then none else l[i - 1]?) l[i] := .inr (.inr (.inl b3))
        have hbf : b = false := by
          cases b with
          | false => rfl
          | true => exact absurd hbad ((HB.out.1 rfl).1 i h)
        have d1 : (l[i].1 < 0) = False := eq_false b1
        have d2 : (l[i].2 < l[i].1) = False := eq_false b2
        have d3 : ((4611686018427387903 : Int) < l[i].2) = True := eq_true b3
        clear hbad
        subst hbf
        clear hc hall HB
        generalize l[i].1 = x at *
        generalize l[i].2 = y at *
        go_wp2_with fail
        go_region
        go_wp2
        go_ret
        exact ⟨rfl, (bb.alloc z0 _).drew⟩
      rcases i with _ | i
      · have hnb : ∀ j (h : j < l.length), j < 0 + 1 → ¬ rBad (if j = 0 then none else l[j - 1]?) l[j] := by
          intro j hj hj1 hb
          obtain rfl : j = 0 := by omega
          rcases hb with hb | hb | hb | ⟨q, hq, _⟩
          · exact b1 hb
          · exact b2 hb
          · exact b3 hb
          · cases hq
        have Hnb := Lib.hid hnb
        clear hc hall hnb
        simp only [Nat.zero_mul, Nat.add_zero] at k1 k2 a1
        have d1 : (l[0].1 < 0) = False := eq_false b1
        have d2 : (l[0].2 < l[0].1) = False := eq_false b2
        have d3 : ((4611686018427387903 : Int) < l[0].2) = False := eq_false b3
        generalize l[0].1 = x at *
        generalize l[0].2 = y at *
        go_wp2_with fail
        go_region
        go_wp2
        go_roundg (l.length - (0 + 1))
        case measure => omega
        case rel => exact ⟨0 + 1, rfl, by omega, by simp, (bb.alloc z0 _).drew, Hnb⟩
      · have hi' : i < l.length := by omega
        have k3 := (hc i hi').1
        have a3 := addr_add g o (i * 2)
        have hx3 := HL.out l[i] (List.getElem_mem hi')
        have hp := hall.out i hi' (by omega)
        have hp1 : ¬ l[i].1 < 0 := fun h => hp (.inl h)
        by_cases b4 : l[i].1 - 1 ≤ l[i + 1].2
        · have hbad : rBad (if i + 1 = 0 then none else l[i + 1 - 1]?) l[i + 1] := .inr (.inr (.inr ⟨l[i], by simp [List.getElem?_eq_getElem hi'], b4⟩))
          have hbf : b = false := by
            cases b with
            | false => rfl
            | true => exact absurd hbad ((HB.out.1 rfl).1 (i + 1) h)
          subst hbf
          have d1 : (l[i + 1].1 < 0) = False := eq_false b1
          have d2 : (l[i + 1].2 < l[i + 1].1) = False := eq_false b2
          have d3 : ((4611686018427387903 : Int) < l[i + 1].2) = False := eq_false b3
          have d5 : ((0 : Int) < (i : Int) + 1) = True := eq_true (by omega)
          have d4 : (l[i].1 - 1 ≤ l[i + 1].2) = True := eq_true b4
          clear hc hall HB hp hbad
          generalize l[i + 1].1 = x at *
          generalize l[i + 1].2 = y at *
          generalize l[i].1 = z at *
          go_wp2_with fail
          go_region
          go_wp2
          go_ret
          exact ⟨rfl, (bb.alloc z0 _).drew⟩
        · have hnb : ∀ j (h : j < l.length), j < i + 1 + 1 → ¬ rBad (if j = 0 then none else l[j - 1]?) l[j] := by
            intro j hj hj1
            by_cases hji : j < i + 1
            · exact hall.out j hj hji
            obtain rfl : j = i + 1 := by omega
            rintro (hb | hb | hb | ⟨q, hq, hq2⟩)
            · exact b1 hb
            · exact b2 hb
            · exact b3 hb
            · simp [List.getElem?_eq_getElem hi'] at hq
              subst hq
              exact b4 hq2
          have Hnb := Lib.hid hnb
          have d1 : (l[i + 1].1 < 0) = False := eq_false b1
          have d2 : (l[i + 1].2 < l[i + 1].1) = False := eq_false b2
          have d3 : ((4611686018427387903 : Int) < l[i + 1].2) = False := eq_false b3
          have d5 : ((0 : Int) < (i : Int) + 1) = True := eq_true (by omega)
          have d4 : (l[i].1 - 1 ≤ l[i + 1].2) = False := eq_false b4
          clear hc hall hnb hp
          generalize l[i + 1].1 = x at *
          generalize l[i + 1].2 = y at *
          generalize l[i].1 = z at *
          go_wp2_with fail
          go_region
          go_wp2
          go_roundg (l.length - (i + 1 + 1))
          case measure => omega
          case rel => exact ⟨i + 1 + 1, rfl, by omega, by simp, (bb.alloc z0 _).drew, Hnb⟩
    · obtain rfl : i = l.length := by omega
      have hgood : rGood l := fun j hj => hall.out j hj hj
      have hbe : decide ((l.length : Int) ≤ 16) = b := by
        cases b with
        | true =>
          have := (HB.out.1 rfl).2
          rw [decide_eq_true_iff]
          omega
        | false =>
          rw [decide_eq_false_iff_not]
          intro h
          have := HB.out.2 ⟨hgood, by omega⟩
          cases this
      have Hbe := Lib.hid hbe
      clear hall hgood hbe HB
      go_wp2
      go_ret
      refine ⟨?_, bb⟩
      rw [← Hbe.out]
      rfl
end Go.Proofs.Ytgebebdapfnmpaa
