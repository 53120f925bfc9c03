/- Two ledgers alike; the calls at every statement's head. -/
import Derived.Test.YtgebebdapfnmpaaH
import Derived.Test.YtgebebdapfnmpaaE
import Derived.Outline
namespace Go.Proofs.Ytgebebdapfnmpaa
open Go.RowKit
set_option linter.unusedVariables false
set_option linter.unusedSimpArgs false
attribute [local go_sem ↓] Go.wp_at_zero Go.wp_at_succ

set_option maxHeartbeats 4000000 in
theorem same_same {lo up lo2 up2 : Nat} {A A2 : Option Addr} {n c n2 c2 : Nat} {l : List Pk} {w : World} (hr : Sl w lo up 5 A n c (pCells l)) (hr2 : Sl w lo2 up2 5 A2 n2 c2 (pCells l)) (hn : n ≤ 1000) :
    Calls Try.prog 10 #[.slice A n c, .slice A2 n2 c2] w fun e w' => e = .returned (.bool true) ∧ Below w.heap.size w w' := by
  have hlen : n = l.length := by have := hr.len; rw [pCells_length] at this; omega
  have hlen2 : n2 = l.length := by have := hr2.len; rw [pCells_length] at this; omega
  subst hlen2
  subst hlen
  have HR := Lib.hid hr
  have HR2 := Lib.hid hr2
  clear hr hr2
  go_enter Try.func10, Try.ntmps10
  go_wp2_with fail
  go_loopg [5] l.length (fun gh s5 wr => ∃ i : Nat, gh = l.length - i ∧ i ≤ l.length ∧ s5 = .int .i64 i ∧ (∃ q, wr = w.drewN q))
  case atStart => exact ⟨0, by omega, by omega, rfl, ⟨0, rfl⟩⟩
  case round =>
    obtain ⟨i, hg, hi, rfl, ⟨q, rfl⟩⟩ := hrel
    by_cases h : i < l.length
    · obtain ⟨g, o, rfl, _, hc⟩ := slp_cell HR.out (by omega)
      obtain ⟨g2, o2, rfl, _, hc2⟩ := slp_cell HR2.out (by omega)
      obtain ⟨k1, k2, k3, k4, k5⟩ := hc i h
      obtain ⟨j1, j2, j3, j4, j5⟩ := hc2 i h
      have a1 := addr_add g o (i * 5)
      have a2 := addr_add g2 o2 (i * 5)
      clear hc hc2
      generalize l[i].no = no at *
      generalize l[i].ti = ti at *
      generalize l[i].sz = sz at *
      generalize l[i].el = el at *
      generalize l[i].pr = pr at *
      go_wp2_with fail
      go_quiet (skip)
      go_wp2
      go_roundg (l.length - (i + 1))
      case measure => omega
      case rel => exact ⟨i + 1, rfl, by omega, by simp, ⟨_, rfl⟩⟩
    · obtain rfl : i = l.length := by omega
      go_wp2
      go_ret
      exact ⟨rfl, below_drewN (Below.refl _ _) _⟩
end Go.Proofs.Ytgebebdapfnmpaa
