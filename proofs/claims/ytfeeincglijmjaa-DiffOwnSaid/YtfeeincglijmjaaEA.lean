/- What is read of a difference: the next number. -/
import Derived.Test.YtfeeincglijmjaaDA
import Derived.Test.YtfeeincglijmjaaLib2
namespace Go.Proofs.Ytfeeincglijmjaa
open Go.RowKit
set_option linter.unusedVariables false
set_option linter.unusedSimpArgs false
attribute [local go_sem ↓] Go.wp_at_zero Go.wp_at_succ

/-- The next number, what is left, and whether it is lost. -/
def nNext (L : List Int) (b : Bool) (m : Int) : Int × List Int × Bool :=
  if b then (0, L, true) else match L with
    | [] => (0, [], true)
    | x :: r => if m < x then (0, x :: r, true) else (x, r, false)
/-- Numbers, in a box, where they lie. -/
def NBox (w : World) (lo up g : Nat) (L : List Int) (b : Bool) : Prop := ∃ A n c, Blk w g 98 #[.slice A n c, .bool b] ∧ Sl w lo up 1 A n c (intCells L)
theorem NBox.grown {w w' : World} {lo up g : Nat} {L : List Int} {b : Bool} {row : Option Nat} (h : NBox w lo up g L b) (hg : w.grownBy w' row) (hB : up ≤ w.heap.size) (hr : ∀ k, row = some k → (k < lo ∨ up ≤ k) ∧ k ≠ g) : NBox w' lo up g L b := by
  obtain ⟨A, n, c, h1, h2⟩ := h
  exact ⟨A, n, c, h1.grown hg (fun e => (hr g e.symm).2 rfl), h2.grown hg hB (fun k e => (hr k e).1)⟩
theorem NBox.below {w w' : World} {lo up g B : Nat} {L : List Int} {b : Bool} (h : NBox w lo up g L b) (hb : Below B w w') (hg : g < B) (hB : up ≤ B) : NBox w' lo up g L b := by
  obtain ⟨A, n, c, h1, h2⟩ := h
  exact ⟨A, n, c, h1.below hb hg, h2.below hb hB⟩
theorem NBox.drewN {w : World} {lo up g : Nat} {L : List Int} {b : Bool} (h : NBox w lo up g L b) (k : Nat) : NBox (w.drewN k) lo up g L b := by
  obtain ⟨A, n, c, h1, h2⟩ := h
  exact ⟨A, n, c, h1, h2.drewN k⟩
theorem NBox.lt {w : World} {lo up g : Nat} {L : List Int} {b : Bool} (h : NBox w lo up g L b) : g < w.heap.size := by
  obtain ⟨A, n, c, h1, h2⟩ := h
  exact h1.lt

def RetNx (w : World) (lo up g : Nat) (q : Int × List Int × Bool) (e : Ending) (w' : World) : Prop :=
  e = .returned (.int .i64 q.1) ∧ w.grownBy w' (some g) ∧ w'.heap.size = w.heap.size ∧ NBox w' lo up g q.2.1 q.2.2

set_option maxHeartbeats 4000000 in
set_option maxRecDepth 100000 in
theorem nnext_any {lo up g : Nat} {L : List Int} {b : Bool} {w : World} (h : NBox w lo up g L b) (hup : up ≤ w.heap.size) (hg : g < lo ∨ up ≤ g) (hL : L.length ≤ 1000000) (m : Int) :
    Calls Try.prog 99 #[.pointer (some ⟨g, 0, none⟩), .int .i64 m] w (RetNx w lo up g (nNext L b m)) := by
  obtain ⟨A, n, c, hb, hr⟩ := h
  obtain ⟨i0, hi0, hz0, hz1, hz2⟩ := info_parts info3
  have hl0 : n = L.length := by have := hr.len; rw [intCells_length] at this; omega
  subst hl0
  have ⟨kb, fb⟩ := hb.rules
  have a1 := addr_add g 0 1
  have hgr := fun (v : Value) (i : Nat) => grownBy_setCells g [v] i w
  cases b
  rotate_left
  · have e : nNext L true m = (0, L, true) := rfl
    rw [e]
    clear e
    go_enter Try.func99, Try.ntmps99
    go_wp2_with fail
    go_ret
    exact ⟨rfl, hgr _ _, by simp, A, L.length, c, by simpa using hb.set_ 1 (.bool true), hr.setCell hg _⟩
  · cases L with
    | nil =>
      have e : nNext [] false m = (0, [], true) := rfl
      rw [e]
      clear e
      simp only [List.length_nil] at *
      go_enter Try.func99, Try.ntmps99
      go_wp2_with fail
      go_ret
      exact ⟨rfl, hgr _ _, by simp, A, 0, c, by simpa using hb.set_ 1 (.bool true), hr.setCell hg _⟩
    | cons x r =>
      obtain ⟨b0, o0, rfl, hgb, hgb2, hc⟩ := hr.at_ (by simp)
      have k1 : w.cell? ⟨b0, o0, none⟩ = some (.int .i64 x) := by have := hc 0 (by simp [intCells]); simpa [intCells] using this
      by_cases hx : m < x
      · have e : nNext (x :: r) false m = (0, x :: r, true) := by simp [nNext, hx]
        rw [e]
        clear e
        simp only [List.length_cons] at *
        go_enter Try.func99, Try.ntmps99
        go_wp2_with fail
        go_ret
        exact ⟨rfl, hgr _ _, by simp, _, _, c, by simpa using hb.set_ 1 (.bool true), hr.setCell hg _⟩
      · have e : nNext (x :: r) false m = (x, r, false) := by simp [nNext, hx]
        rw [e]
        clear e
        obtain ⟨A3, hcut, hs3⟩ := cut_l Try.underlying88 hi0 hz1 hr 1 r.length (1 : Int) rfl (by simp; omega)
        have hs3 : Sl w lo up 1 A3 r.length (c - 1) (intCells r) := by simpa [intCells] using hs3
        simp only [List.length_cons] at *
        have hne : b0 ≠ g := by omega
        have k2 : (w.setCell ⟨g, 1, none⟩ (.bool false)).cell? ⟨b0, o0, none⟩ = some (.int .i64 x) := by
          rw [World.cell?_setCell_other w _ _ _ (by simp [hne])]
          exact k1
        go_enter Try.func99, Try.ntmps99
        go_wp2_with fail
        go_ret
        refine ⟨rfl, grownBy_trans (hgr _ _) (grownBy_setCells g [_] _ _), by simp, A3, r.length, c - 1, ?_, (hs3.setCell hg _).setCell hg _⟩
        have := (hb.set_ 1 (.bool false)).set_ 0 (.slice A3 r.length (c - 1))
        simpa using this
end Go.Proofs.Ytfeeincglijmjaa
