/- The walk of state's Begin. -/
import Derived.Test.YtfeeincglijmjaaSL
import Derived.Test.YtfeeincglijmjaaZB15
import Derived.Great.BuildSlice
namespace Go.Proofs.Ytfeeincglijmjaa
open Go.RowKit
set_option linter.unusedVariables false
set_option linter.unusedSimpArgs false
attribute [local go_sem ↓] Go.wp_at_zero Go.wp_at_succ

/-- Screens at first, and an error. -/
def RetBg (w : World) (P : List (Int × Scr)) (n : Int) (e : Ending) (w' : World) : Prop :=
  ∃ A c K, e = .returned (.tuple #[.slice A K.length c, .int .i64 n]) ∧ K.map Shn.p = P ∧ w'.ownsRow w.heap.size 39 17 (.slice A K.length c) K.length (shCells K) ∧ (∀ x ∈ K, Shn.Ok w' w'.heap.size x) ∧ Below w.heap.size w w'
/-- .. their places the callee's own. -/
def RetBx (w : World) (P : List (Int × Scr)) (n : Int) (e : Ending) (w' : World) : Prop :=
  ∃ A c K, e = .returned (.tuple #[.slice A K.length c, .int .i64 n]) ∧ K.map Shn.p = P ∧ w'.ownsRow w.heap.size 39 17 (.slice A K.length c) K.length (shCells K) ∧ (∀ x ∈ K, Shn.Ok w' w'.heap.size x) ∧ Below w.heap.size w w' ∧ (∀ x ∈ K, x.Lo w' w.heap.size)
theorem build39y (s : Scr) (C : Option Addr) (cc : Nat) (M : Option Addr) (cm : Nat) (W : World) : (Instr.build 39 #[(1, .agg (s.v C cc M cm))]).run Try.prog W = .ok (.agg (Shn.v ⟨0, s, C, cc, M, cm⟩)) W :=
  run_build (P := Try.prog) W 39 #[(1, .agg (s.v C cc M cm))] _ (by kernel_rfl)
theorem own_shn (w : World) (x : Shn) {base : Nat} (hb : base ≤ w.heap.size) : (w.alloc (.cells x.v 39)).ownsRow base 39 17 (.slice (some ⟨w.heap.size, 0, none⟩) 1 1) 1 (shCells [x]) :=
  own_mk hb (heap_alloc_new w _) (Nat.le_refl _) (by unfold maxLen; omega) (by rfl) (by simp [shCells]; rw [List.take_of_length_le (by rw [Array.length_toList, Shn.v_size]; omega)])

set_option maxHeartbeats 4000000 in
set_option maxRecDepth 100000 in
theorem begin_lo {W H : Int} {w : World} (h : (inB W 1 64 && inB H 1 64) = true) (hlen : (newScr W H).Len) :
    Calls Try.prog 13 #[.int .i64 W, .int .i64 H] w (RetBx w [(0, newScr W H)] 0) := by
  have HN := Lib.hid (new_yes (w := w) h)
  generalize newScr W H = s at *
  clear h
  go_enter Try.func13, Try.ntmps13
  go_wp2_with fail
  refine HN.out.mono ?_
  rintro e w1 ⟨C, cc, M, cm, rfl, hat1, b1⟩
  obtain ⟨w2, hst2, kA2, b2, z2⟩ := scr_new w1 s C cc M cm
  have q2 := bs16 kA2 rfl
  have hat2 := hat1.below b2 (Nat.le_refl _)
  have z1 := b1.size
  have bb2 := b1.trans (b2.mono z1)
  have hbd := build39y s C cc M cm
  have hat3 := hat2.alloc (by omega) (.cells (Shn.v ⟨0, s, C, cc, M, cm⟩) 39)
  have F := Lib.hid (show RetBx w [(0, s)] 0 (.returned (.tuple #[.slice (some ⟨w2.heap.size, 0, none⟩) 1 1, .int .i64 0])) (w2.alloc (.cells (Shn.v ⟨0, s, C, cc, M, cm⟩) 39)) from
    ⟨_, _, [⟨0, s, C, cc, M, cm⟩], rfl, rfl, own_shn w2 _ (by omega), fun x hx => by
      simp only [List.mem_cons, List.not_mem_nil, or_false] at hx
      subst hx
      exact ⟨hat3.more (Nat.zero_le _) (by rw [World.size_alloc]; omega), hlen⟩, bb2.alloc (by omega) _, fun x hx => by
      simp only [List.mem_cons, List.not_mem_nil, or_false] at hx
      subst hx
      exact hat3.more (Nat.le_refl _) (by rw [World.size_alloc]; omega)⟩)
  clear hat1 b1 b2 HN hat2 hat3 hlen
  have hsz : (Shn.v ⟨0, s, C, cc, M, cm⟩).size = 17 := rfl
  clear hbd hsz
  unfold Scr.v at q2 hst2 kA2 ⊢
  go_wp2_with (first | ((with_reducible refine wpList_ld2 q2 ?_ ?_); rfl) | ((with_reducible refine wpList_st2 hst2 ?_ ?_); exact ⟨rfl, rfl⟩))
  go_ret2
  exact F.out
theorem begin_yes {W H : Int} {w : World} (h : (inB W 1 64 && inB H 1 64) = true) (hlen : (newScr W H).Len) :
    Calls Try.prog 13 #[.int .i64 W, .int .i64 H] w (RetBg w [(0, newScr W H)] 0) :=
  (begin_lo h hlen).mono fun e w' ⟨A, c, K, h1, h2, h3, h4, h5, _⟩ => ⟨A, c, K, h1, h2, h3, h4, h5⟩
end Go.Proofs.Ytfeeincglijmjaa
