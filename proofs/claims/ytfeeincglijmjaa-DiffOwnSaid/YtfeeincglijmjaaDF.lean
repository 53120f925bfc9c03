/- The walk of diff.head. -/
import Derived.Test.YtfeeincglijmjaaDE
import Derived.Deep.RegionHeld3
namespace Go.Proofs.Ytfeeincglijmjaa
open Go.RowKit
set_option linter.unusedVariables false
set_option linter.unusedSimpArgs false
attribute [local go_sem ↓] Go.wp_at_zero Go.wp_at_succ

theorem capBound {w : World} : 11 ≤ (Question.appendCap 11 8 3).cut (w.tape w.drawn (Question.appendCap 11 8 3)) ∧ (Question.appendCap 11 8 3).cut (w.tape w.drawn (Question.appendCap 11 8 3)) ≤ maxLen := by
  have hlt := Nat.mod_lt (w.tape w.drawn (.appendCap 11 8 3)) (show 0 < 2 ^ 63 - 11 by omega)
  show 11 ≤ 11 + _ ∧ 11 + _ ≤ maxLen
  unfold maxLen
  omega

set_option maxHeartbeats 8000000 in
set_option maxRecDepth 100000 in
theorem head_any {s : Scr} {C M : Option Addr} {cc cm : Nat} {w : World} :
    Calls Try.prog 57 #[.agg (s.v C cc M cm)] w (RetI w (dHead s)) := by
  obtain ⟨i0, hi0, hz0, hz1, hz2⟩ := info_parts info3
  have HB := Lib.hid (fun W => bits_any (s := s) (C := C) (M := M) (cc := cc) (cm := cm) (w := W))
  obtain ⟨W, H, X, Y, At, Tp, Bt, wr, au, hi, al, s0, s1, s2, cs, ms⟩ := s
  unfold dHead
  unfold Scr.v at HB ⊢
  generalize dBits _ = q at *
  simp only at HB ⊢
  have bb := (Below.refl w.heap.size w).alloc (Nat.le_refl _) (.cells #[.int .i64 W, .int .i64 H, .slice C cs.length cc, .int .i64 X, .int .i64 Y, .int .i64 At, .int .i64 Tp, .int .i64 Bt, .bool wr, .bool au, .bool hi, .bool al, .int .i64 s0, .int .i64 s1, .int .i64 s2, .slice M ms.length cm] 35)
  have b1 := Blk.new w 35 #[.int .i64 W, .int .i64 H, .slice C cs.length cc, .int .i64 X, .int .i64 Y, .int .i64 At, .int .i64 Tp, .int .i64 Bt, .bool wr, .bool au, .bool hi, .bool al, .int .i64 s0, .int .i64 s1, .int .i64 s2, .slice M ms.length cm] rfl
  go_enter Try.func57, Try.ntmps57
  go_wp2_with fail
  go_region_held3 (fun w' => w'.cell? ⟨w.heap.size, 0, none⟩ = some (.int .i64 W) ∧ w'.cell? ⟨w.heap.size, 1, none⟩ = some (.int .i64 H) ∧ w'.cell? ⟨w.heap.size, 2, none⟩ = some (.slice C cs.length cc) ∧ w'.cell? ⟨w.heap.size, 3, none⟩ = some (.int .i64 X) ∧ w'.cell? ⟨w.heap.size, 4, none⟩ = some (.int .i64 Y) ∧ w'.cell? ⟨w.heap.size, 5, none⟩ = some (.int .i64 At) ∧ w'.cell? ⟨w.heap.size, 6, none⟩ = some (.int .i64 Tp) ∧ w'.cell? ⟨w.heap.size, 7, none⟩ = some (.int .i64 Bt) ∧ w'.cell? ⟨w.heap.size, 8, none⟩ = some (.bool wr) ∧ w'.cell? ⟨w.heap.size, 9, none⟩ = some (.bool au) ∧ w'.cell? ⟨w.heap.size, 10, none⟩ = some (.bool hi) ∧ w'.cell? ⟨w.heap.size, 11, none⟩ = some (.bool al) ∧ w'.cell? ⟨w.heap.size, 12, none⟩ = some (.int .i64 s0) ∧ w'.cell? ⟨w.heap.size, 13, none⟩ = some (.int .i64 s1) ∧ w'.cell? ⟨w.heap.size, 14, none⟩ = some (.int .i64 s2) ∧ w'.cell? ⟨w.heap.size, 15, none⟩ = some (.slice M ms.length cm)) (first | exact ⟨b1.rules.1 0, b1.rules.1 1, b1.rules.1 2, b1.rules.1 3, b1.rules.1 4, b1.rules.1 5, b1.rules.1 6, b1.rules.1 7, b1.rules.1 8, b1.rules.1 9, b1.rules.1 10, b1.rules.1 11, b1.rules.1 12, b1.rules.1 13, b1.rules.1 14, b1.rules.1 15⟩ | exact ⟨k1.rules.1 0, k1.rules.1 1, k1.rules.1 2, k1.rules.1 3, k1.rules.1 4, k1.rules.1 5, k1.rules.1 6, k1.rules.1 7, k1.rules.1 8, k1.rules.1 9, k1.rules.1 10, k1.rules.1 11, k1.rules.1 12, k1.rules.1 13, k1.rules.1 14, k1.rules.1 15⟩ | exact ⟨(k1.alloc _).rules.1 0, (k1.alloc _).rules.1 1, (k1.alloc _).rules.1 2, (k1.alloc _).rules.1 3, (k1.alloc _).rules.1 4, (k1.alloc _).rules.1 5, (k1.alloc _).rules.1 6, (k1.alloc _).rules.1 7, (k1.alloc _).rules.1 8, (k1.alloc _).rules.1 9, (k1.alloc _).rules.1 10, (k1.alloc _).rules.1 11, (k1.alloc _).rules.1 12, (k1.alloc _).rules.1 13, (k1.alloc _).rules.1 14, (k1.alloc _).rules.1 15⟩ | go_keep)
    ((first | (go_at_call 90; refine (HB.out _).mono ?_; rintro e w2 ⟨rfl, hb2⟩; have k1 : Blk w2 w.heap.size 35 #[.int .i64 W, .int .i64 H, .slice C cs.length cc, .int .i64 X, .int .i64 Y, .int .i64 At, .int .i64 Tp, .int .i64 Bt, .bool wr, .bool au, .bool hi, .bool al, .int .i64 s0, .int .i64 s1, .int .i64 s2, .slice M ms.length cm] := Blk.later (by first | exact b1 | exact b1.drew | exact (b1.drew).drew) hb2)))
  obtain ⟨c, hc⟩ : ∃ c, c = (Question.appendCap 11 8 3).cut (w2.tape w2.drawn (Question.appendCap 11 8 3)) := ⟨_, rfl⟩
  have hcb := capBound (w := w2)
  rw [← hc] at hcb ⊢
  clear hc
  go_wp2_with fail
  go_ret
  have bb2 : Below w.heap.size w w2 := bb.drew.trans (hb2.mono (by simp : w.heap.size ≤ _))
  have e11 : ([W, H, X, Y, At, Tp, Bt, q, s0, s1, s2] : List Int).length = 11 := rfl
  refine ⟨some ⟨w2.heap.size + 1, 0, none⟩, c, rfl, ?_, ?_⟩
  · rw [e11]
    refine own_mk (by have := bb2.size; omega) (by exact (Blk.new (g := w2.heap.size + 1) (w2.alloc (.cells #[.int .i64 W, .int .i64 H, .int .i64 X, .int .i64 Y, .int .i64 At, .int .i64 Tp, .int .i64 Bt, .int .i64 q] 3)) 3 _ (by simp))) (by omega) hcb.2 ?_ ?_
    · simp [size_zeroCells]; omega
    · simp [intCells]
  · exact ((bb2.alloc bb2.size _).alloc (by simp; have := bb2.size; omega) _).drew
end Go.Proofs.Ytfeeincglijmjaa
