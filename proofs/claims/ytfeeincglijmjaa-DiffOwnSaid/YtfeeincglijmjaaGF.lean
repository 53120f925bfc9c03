/- The walks of the document's list and Same of screens, and of few. -/
import Derived.Test.YtfeeincglijmjaaGD
import Derived.IntWalk
namespace Go.Proofs.Ytfeeincglijmjaa
open Go.RowKit
set_option linter.unusedVariables false
set_option linter.unusedSimpArgs false
attribute [local go_sem ↓] Go.wp_at_zero Go.wp_at_succ

set_option maxHeartbeats 4000000 in
set_option maxRecDepth 100000 in
theorem list_any {lo up lo2 up2 : Nat} {A A2 : Option Addr} {n c n2 c2 : Nat} {l m : List (Int × Int)} {w : World} (hr : Sl w lo up 2 A n c (cCells l)) (hr2 : Sl w lo2 up2 2 A2 n2 c2 (cCells m)) (hn : n ≤ 9223372036854775807) (hn2 : n2 ≤ 9223372036854775807) (b : Bool) (hb : b = true ↔ l = m) :
    Calls Try.prog 54 #[.slice A n c, .slice A2 n2 c2] w fun e w' => e = .returned (.bool b) ∧ Below w.heap.size w w' := by
  have hlen : n = l.length := by have := hr.len; rw [cCells_length] at this; omega
  have hlen2 : n2 = m.length := by have := hr2.len; rw [cCells_length] at this; omega
  subst hlen hlen2
  have HR := Lib.hid hr
  have HR2 := Lib.hid hr2
  have HB := Lib.hid hb
  clear hr hr2 hb
  by_cases hl : l.length = m.length
  rotate_left
  · have hbf : b = false := by
      cases b with
      | false => rfl
      | true => exact absurd (congrArg List.length (HB.out.1 rfl)) hl
    subst hbf
    have hl1 : ¬ ((l.length : Int) = (m.length : Int)) := by omega
    clear HB
    go_enter Try.func54, Try.ntmps54
    go_wp2
    go_ret
    exact ⟨rfl, Below.refl _ _⟩
  rw [← hl] at hn2 HR2 ⊢
  have HL := Lib.hid hl
  clear hl
  go_enter Try.func54, Try.ntmps54
  go_wp2_with fail
  go_loopg [5] l.length (fun gh s5 wr => ∃ i : Nat, gh = l.length - i ∧ i ≤ l.length ∧ s5 = .int .i64 i ∧ (∃ q, wr = w.drewN q) ∧ Hid (∀ j (h : j < l.length), j < i → m[j]? = some l[j]))
  case atStart => exact ⟨0, by omega, by omega, rfl, ⟨0, rfl⟩, Lib.hid (fun _ _ h => absurd h (by omega))⟩
  case round =>
    obtain ⟨i, hg, hi, rfl, ⟨q, rfl⟩, hall⟩ := hrel
    by_cases h : i < l.length
    · have hm : i < m.length := by have := HL.out; omega
      obtain ⟨g, o, rfl, _, hc⟩ := slc_cell HR.out (by omega)
      obtain ⟨g2, o2, rfl, _, hc2⟩ := slc_cell HR2.out (by omega)
      have k1 := (hc i h).1
      have k2 := (hc i h).2
      have k3 := (hc2 i hm).1
      have k4 := (hc2 i hm).2
      have a1 := addr_add g o (i * 2)
      have a2 := addr_add g2 o2 (i * 2)
      clear hc hc2
      by_cases he : l[i] = m[i]
      · have hall2 : ∀ j (h : j < l.length), j < i + 1 → m[j]? = some l[j] := by
          intro j hj hj1
          by_cases hji : j < i
          · exact hall.out j hj hji
          · obtain rfl : j = i := by omega
            rw [he, List.getElem?_eq_getElem hm]
        have Hall2 := Lib.hid hall2
        rw [← he] at k3 k4
        clear hall2 hall he
        generalize l[i].1 = x at *
        generalize l[i].2 = y at *
        go_wp2_with fail
        go_quiet (skip)
        go_wp2
        go_roundg (l.length - (i + 1))
        case measure => omega
        case rel => exact ⟨i + 1, rfl, by omega, by simp, ⟨_, rfl⟩, Hall2⟩
      · have hbf : b = false := by
          cases b with
          | false => rfl
          | true => 
            have := HB.out.1 rfl
            subst this
            exact absurd rfl he
        subst hbf
        have he2 : ¬ (l[i].1 = m[i].1 ∧ l[i].2 = m[i].2) := fun hh => he (Prod.ext hh.1 hh.2)
        clear HB hall he
        generalize l[i].1 = x at *
        generalize l[i].2 = y at *
        generalize m[i].1 = x2 at *
        generalize m[i].2 = y2 at *
        by_cases hx : x = x2
        · subst hx
          have hy : (y == y2) = false := by
            simp only [beq_eq_false_iff_ne]
            exact fun hh => he2 ⟨rfl, hh⟩
          clear he2
          go_wp2_with fail
          go_quiet (skip)
          go_wp2
          go_ret
          exact ⟨rfl, below_drewN (below_drewN (Below.refl _ _) _) _⟩
        · have hx : (x == x2) = false := by
            simp only [beq_eq_false_iff_ne]
            exact hx
          clear he2
          go_wp2_with fail
          go_quiet (skip)
          go_wp2
          go_ret
          exact ⟨rfl, below_drewN (below_drewN (Below.refl _ _) _) _⟩
    · obtain rfl : i = l.length := by omega
      have hbt : b = true := HB.out.2 (by
        refine List.ext_getElem HL.out fun j h1 h2 => ?_
        have := hall.out j h1 h1
        rw [List.getElem?_eq_getElem h2] at this
        injection this with this
        exact this.symm)
      subst hbt
      clear hall
      go_wp2
      go_ret
      exact ⟨rfl, below_drewN (Below.refl _ _) _⟩

end Go.Proofs.Ytfeeincglijmjaa
