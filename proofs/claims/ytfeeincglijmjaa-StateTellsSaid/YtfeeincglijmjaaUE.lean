/- The document's comparing of two lists of bytes: alike lists are. -/
import Derived.Test.YtfeeincglijmjaaZB14
import Derived.Test.YtfeeincglijmjaaZB2
import Derived.Deep.RegionHeld3
namespace Go.Proofs.Ytfeeincglijmjaa
open Go.RowKit
set_option linter.unusedVariables false
set_option linter.unusedSimpArgs false
attribute [local go_sem ↓] Go.wp_at_zero Go.wp_at_succ

set_option maxHeartbeats 4000000 in
set_option maxRecDepth 100000 in
theorem rlists_yes {lo up lo2 up2 base base2 n c c2 : Nat} {A A2 : Option Addr} {vs vs2 : List Value} {ps : List (List UInt8)} {w : World} (h1 : Sl w lo up 1 A n c vs) (b1 : Bs w base vs ps) (h2 : Sl w lo2 up2 1 A2 n c2 vs2) (b2 : Bs w base2 vs2 ps) (hn : n ≤ 9223372036854775807) :
    Calls Try.prog 38 #[.slice A n c, .slice A2 n c2] w fun e w' => e = .returned (.bool true) ∧ ∃ k, w' = w.drewN k := by
  have hl1 : n = vs.length := by have := h1.len; omega
  have hl2 : vs.length = ps.length := b1.1
  have hl3 : vs2.length = ps.length := b2.1
  have HX := Lib.hid (fun i (hi : i < n) => (show ∃ (b o b2 o2 : Nat) (A3 : Option Addr) (c3 : Nat) (A4 : Option Addr) (c4 : Nat) (p : List UInt8), A = some ⟨b, o, none⟩ ∧ A2 = some ⟨b2, o2, none⟩ ∧ w.cell? ⟨b, o + i, none⟩ = some (.slice A3 p.length c3) ∧ w.cell? ⟨b2, o2 + i, none⟩ = some (.slice A4 p.length c4) ∧
      (∀ k, (convert 23 9 (.slice A3 p.length c3)).run Try.prog (w.drewN k) = .ok (.string ⟨p.toArray⟩) (w.drewN k)) ∧ (∀ k, (convert 23 9 (.slice A4 p.length c4)).run Try.prog (w.drewN k) = .ok (.string ⟨p.toArray⟩) (w.drewN k)) by
    obtain ⟨b, o, hA, -, -, hc⟩ := h1.at_ (by omega)
    obtain ⟨b2', o2, hA2, -, -, hc2⟩ := h2.at_ (by omega)
    obtain ⟨A3, c3, e3, ho3⟩ := b1.2 i vs[i] ps[i] (List.getElem?_eq_getElem (by omega)) (List.getElem?_eq_getElem (by omega))
    obtain ⟨A4, c4, e4, ho4⟩ := b2.2 i vs2[i] ps[i] (List.getElem?_eq_getElem (by omega)) (List.getElem?_eq_getElem (by omega))
    refine ⟨b, o, b2', o2, A3, c3, A4, c4, ps[i], hA, hA2, ?_, ?_, fun k => run_string_of ((Sl.of_own ho3).drewN k) Try.underlying23 Try.underlying5 Try.underlying9, fun k => run_string_of ((Sl.of_own ho4).drewN k) Try.underlying23 Try.underlying5 Try.underlying9⟩
    · rw [hc i (by omega), List.getElem?_eq_getElem (by omega), e3]
    · rw [hc2 i (by omega), List.getElem?_eq_getElem (by omega), e4]))
  clear h1 h2 b1 b2 hl1 hl2 hl3
  go_enter Try.func38, Try.ntmps38
  go_wp2_with fail
  go_loopg [5] n (fun gh s5 wr => ∃ i : Nat, gh = n - i ∧ i ≤ n ∧ s5 = .int .i64 i ∧ (∃ k, wr = w.drewN k))
  case atStart => exact ⟨0, by omega, by omega, rfl, ⟨0, rfl⟩⟩
  case round =>
    obtain ⟨i, hgm, hi, rfl, ⟨k, rfl⟩⟩ := hrel
    have HGM := Lib.hid hgm
    clear hgm
    by_cases h : i < n
    · obtain ⟨b, o, b2, o2, A3, c3, A4, c4, p, rfl, rfl, k1, k2, q1, q2⟩ := HX.out i h
      have a1 := addr_add b o i
      have a2 := addr_add b2 o2 i
      have hiI : (i : Int) < n := by omega
      go_wp2_with fail
      go_quiet (skip)
      go_wp2_with fail
      go_roundg (n - (i + 1))
      case measure => have := HGM.out; omega
      case rel => exact ⟨i + 1, rfl, by omega, by go_num, ⟨_, by first | rfl | exact World.drewN_drewN _ _ _⟩⟩
    · obtain rfl : i = n := by omega
      clear HX
      go_wp2_with fail
      go_ret
      exact ⟨rfl, _, rfl⟩
end Go.Proofs.Ytfeeincglijmjaa
