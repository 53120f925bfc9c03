/- The walk of SentNone. -/
import Derived.Test.YtgebebdapfnmpaaK
namespace Go.Proofs.Ytgebebdapfnmpaa
open Go.RowKit
set_option linter.unusedVariables false
set_option linter.unusedSimpArgs false
attribute [local go_sem ↓] Go.wp_at_zero Go.wp_at_succ

theorem none_long {A A1 : Option Addr} {n c n1 c1 : Nat} {x : Int} {w : World} (hn : 400 < n) : Calls Try.prog 4 #[.slice A n c, .slice A1 n1 c1, .int .i64 x] w fun e w' => e = .returned (.bool true) ∧ Below w.heap.size w w' := by
  go_enter Try.func4, Try.ntmps4
  go_wp2_with fail
  refine (awake_any _).mono ?_
  rintro e w1 ⟨rfl, bb⟩
  go_wp2
  go_ret
  exact ⟨rfl, bb⟩
theorem none_long2 {A A1 : Option Addr} {n c n1 c1 : Nat} {x : Int} {w : World} (hn : n ≤ 400) (hn1 : 40 < n1) : Calls Try.prog 4 #[.slice A n c, .slice A1 n1 c1, .int .i64 x] w fun e w' => e = .returned (.bool true) ∧ Below w.heap.size w w' := by
  go_enter Try.func4, Try.ntmps4
  go_wp2_with fail
  refine (awake_any _).mono ?_
  rintro e w1 ⟨rfl, bb⟩
  go_wp2
  go_ret
  exact ⟨rfl, bb⟩

set_option maxHeartbeats 4000000 in
theorem none_good {A A1 : Option Addr} {n c n1 c1 : Nat} {l : List Pk} {x : Int} {w : World} (hr : Sl w 0 w.heap.size 5 A n c (pCells l)) (hn : n ≤ 400) (hn1 : n1 ≤ 40) (hl : pWf l) (hg : pOk l) : Calls Try.prog 4 #[.slice A n c, .slice A1 n1 c1, .int .i64 x] w fun e w' => e = .returned (.bool true) ∧ Below w.heap.size w w' := by
  have HC := Lib.hid (fun (W : World) (bb : Below w.heap.size w W) => check_any (hr.below bb (Nat.le_refl _)) bb.size (by omega) hl true (by simp only [true_iff]; exact hg))
  clear hr hl hg
  go_enter Try.func4, Try.ntmps4
  go_wp2_with fail
  refine (awake_any _).mono ?_
  rintro e w1 ⟨rfl, bb⟩
  have z1 := bb.size
  go_wp2_with fail
  refine (HC.out _ bb).mono ?_
  rintro e w2 ⟨rfl, hb⟩
  have bb := bb.trans (hb.mono z1)
  clear hb HC
  go_wp2
  go_ret
  exact ⟨rfl, bb⟩

set_option maxHeartbeats 4000000 in
theorem none_bad {A A1 : Option Addr} {n c n1 c1 : Nat} {l : List Pk} {m : List (Int × Int)} {x : Int} {w : World} (hr : Sl w 0 w.heap.size 5 A n c (pCells l)) (hs : Sl w 0 w.heap.size 2 A1 n1 c1 (rCells m)) (hn : n ≤ 400) (hn1 : n1 ≤ 40) (hl : pWf l) (hm : rWf m) (hg : ¬ pOk l) (hx : -9223372036854775808 ≤ x ∧ x ≤ 9223372036854775807) : Calls Try.prog 4 #[.slice A n c, .slice A1 n1 c1, .int .i64 x] w fun e w' => e = .returned (.bool true) ∧ Below w.heap.size w w' := by
  have HC := Lib.hid (fun (W : World) (bb : Below w.heap.size w W) => check_any (hr.below bb (Nat.le_refl _)) bb.size (by omega) hl false (by constructor; intro h; cases h; intro h; exact absurd h hg))
  have hM : pOk l ∧ ([] : List Pk) = l ∨ ¬ pOk l ∧ ([] : List Pk) = [] := .inr ⟨hg, rfl⟩
  have HA := Lib.hid (fun (W : World) (bb : Below w.heap.size w W) => (acked_any (hr.below bb (Nat.le_refl _)) bb.size (by omega) hl hM (hs.below bb (Nat.le_refl _)) bb.size (by omega) hm : Calls _ _ _ _ (RetTwo W [] [])))
  have HL := Lib.hid (fun (W : World) (bb : Below w.heap.size w W) => (lost_any (hr.below bb (Nat.le_refl _)) bb.size (by omega) hl hM x x x hx : Calls _ _ _ _ (RetTwo W [] [])))
  have HW := Lib.hid (fun (W : World) (bb : Below w.heap.size w W) => (when_any (x := x) (y := x) (hr.below bb (Nat.le_refl _)) bb.size (by omega) hl hM : Calls _ _ _ _ (fun e w' => e = .returned (.tuple #[.int .i64 0, .bool false]) ∧ Below W.heap.size W w')))
  have HT := Lib.hid (fun (W : World) (bb : Below w.heap.size w W) => (last_any (hr.below bb (Nat.le_refl _)) bb.size (by omega) hl hM : Calls _ _ _ _ (fun e w' => e = .returned (.tuple #[.int .i64 0, .bool false]) ∧ Below W.heap.size W w')))
  have HF := Lib.hid (fun (W : World) (bb : Below w.heap.size w W) => (flight_any (hr.below bb (Nat.le_refl _)) bb.size (by omega) hl hM : Calls _ _ _ _ (fun e w' => e = .returned (.int .i64 0) ∧ Below W.heap.size W w')))
  clear hr hs hl hm hg hM
  go_enter Try.func4, Try.ntmps4
  go_wp2_with fail
  refine (awake_any _).mono ?_
  rintro e w1 ⟨rfl, bb⟩
  have z1 := bb.size
  go_wp2_with fail
  refine (HC.out _ bb).mono ?_
  rintro e w2 ⟨rfl, hb⟩
  have bb := bb.trans (hb.mono z1)
  have z1 := bb.size
  clear hb HC
  go_wp2_with fail
  refine (HA.out _ bb).mono ?_
  rintro e w3 ⟨A2, c2, A3, c3, rfl, _, _, hb⟩
  simp only [List.length_nil]
  have bb := bb.trans (hb.mono z1)
  have z1 := bb.size
  clear hb HA
  go_wp2_with fail
  refine (HL.out _ bb).mono ?_
  rintro e w4 ⟨A4, c4, A5, c5, rfl, _, _, hb⟩
  simp only [List.length_nil]
  have bb := bb.trans (hb.mono z1)
  have z1 := bb.size
  clear hb HL
  go_wp2_with fail
  refine (HW.out _ bb).mono ?_
  rintro e w5 ⟨rfl, hb⟩
  have bb := bb.trans (hb.mono z1)
  have z1 := bb.size
  clear hb HW
  go_wp2_with fail
  refine (HT.out _ bb).mono ?_
  rintro e w6 ⟨rfl, hb⟩
  have bb := bb.trans (hb.mono z1)
  have z1 := bb.size
  clear hb HT
  go_wp2_with fail
  refine (HF.out _ bb).mono ?_
  rintro e w7 ⟨rfl, hb⟩
  have bb := bb.trans (hb.mono z1)
  clear hb HF
  go_wp2
  go_ret
  exact ⟨rfl, bb⟩
end Go.Proofs.Ytgebebdapfnmpaa
