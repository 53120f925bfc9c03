/- The walk of slices.Delete at ranges, one of them. -/
import Derived.Test.YtgckedeaoglehaaE
import Derived.Test.YtgckedeaoglehaaLib2
import Derived.Outline
namespace Go.Proofs.Ytgckedeaoglehaa
open Go.RowKit
set_option linter.unusedVariables false
set_option linter.unusedSimpArgs false
attribute [local go_sem ↓] Go.wp_at_zero Go.wp_at_succ

theorem rCells_take : ∀ (l : List (Int × Int)) (k : Nat), (rCells l).take (k * 2) = rCells (l.take k)
  | [], k => by simp [rCells]
  | p :: l, 0 => by simp [rCells]
  | p :: l, k + 1 => by rw [show (k + 1) * 2 = k * 2 + 1 + 1 from by omega]; simp [rCells, rCells_take l k]
theorem rCells_drop : ∀ (l : List (Int × Int)) (k : Nat), (rCells l).drop (k * 2) = rCells (l.drop k)
  | [], k => by simp [rCells]
  | p :: l, 0 => by simp [rCells]
  | p :: l, k + 1 => by rw [show (k + 1) * 2 = k * 2 + 1 + 1 from by omega]; simp [rCells, rCells_drop l k]

theorem zero34 (w : World) : (zeroValue 34).run Try.prog w = .ok (.agg #[.int .i64 0, .int .i64 0]) w := by kernel_rfl
theorem zeros34 : (Builtin.zeroCells (Value.agg #[.int .i64 0, .int .i64 0]).cells 1).toList = [.int .i64 0, .int .i64 0] := by kernel_rfl

set_option maxHeartbeats 4000000 in
set_option maxRecDepth 100000 in
theorem delete_any {base n c k : Nat} {A : Option Addr} {l : List (Int × Int)} {w : World} (hown : w.ownsRow base 34 2 (.slice A n c) n (rCells l)) (hk : k < l.length) (hn : n ≤ 1000) :
    Calls Try.prog 26 #[.slice A n c, .int .i64 k, .int .i64 (k + 1)] w fun e w' => e = .returned (.slice A (n - 1) c) ∧ w'.ownsRow base 34 2 (.slice A (n - 1) c) (n - 1) (rCells (l.eraseIdx k)) ∧ w.grownBy w' (Value.ownBlock (.slice A n c)) := by
  have hlen : n = l.length := by have := hown.1; rw [rCells_length] at this; omega
  subst hlen
  obtain ⟨i0, hi0, hz0, hz1, hz2⟩ := info_parts info34
  obtain ⟨g, cur, rfl, hbg, hg, hnc, hcm, hcs, ht⟩ := own_split hown (by omega)
  unfold maxLen at hcm
  obtain ⟨news, hnews⟩ : ∃ news, news = rCells (l.drop (k + 1)) := ⟨_, rfl⟩
  have hnl : news.length = (l.length - (k + 1)) * 2 := by rw [hnews, rCells_length, List.length_drop]
  have hct : cur.toList.length = c * 2 := by rw [Array.length_toList]; exact hcs
  obtain ⟨cur1, h1, e1⟩ := setCells_row g news (0 + k * 2) w.drew cur hg (by omega)
  have hct1 : cur1.toList.length = c * 2 := by
    rw [e1, List.length_append, List.length_append, List.length_take, List.length_drop]
    omega
  have hs1 : cur1.size = c * 2 := by rw [← Array.length_toList]; exact hct1
  obtain ⟨cur2, h2, e2⟩ := setCells_row g [.int .i64 0, .int .i64 0] ((l.length - 1) * 2) _ cur1 h1 (by simp only [List.length_cons, List.length_nil]; omega)
  have hct2 : cur2.toList.length = c * 2 := by
    rw [e2, List.length_append, List.length_append, List.length_take, List.length_drop]
    simp only [List.length_cons, List.length_nil]
    omega
  have hs2 : cur2.size = c * 2 := by rw [← Array.length_toList]; exact hct2
  have hfin : cur2.toList.take ((l.length - 1) * 2) = rCells (l.eraseIdx k) := by
    rw [e2, List.append_assoc, List.take_append_of_le_length (by rw [List.length_take]; omega), List.take_take, Nat.min_self, e1, Nat.zero_add, List.take_append_of_le_length (by rw [List.length_append, List.length_take]; omega)]
    rw [List.take_of_length_le (by rw [List.length_append, List.length_take]; omega)]
    rw [hnews, List.eraseIdx_eq_take_drop_succ, rCells_append, ← rCells_take l k, ← ht, List.take_take, Nat.min_eq_left (by omega)]
  have hsrc : ∀ j u, news[j]? = some u → w.cell? ⟨g, (k + 1) * 2 + j, none⟩ = some u := by
    intro j u hu
    rw [cell_of_row w g _ cur 34 (0, 0) hg, ← Array.getElem?_toList]
    rw [hnews, ← rCells_drop, List.getElem?_drop, ← ht, List.getElem?_take] at hu
    split at hu
    · exact hu
    · cases hu
  -- the source of the append, as the walk sees it
  obtain ⟨AD, hAD, hsrc2⟩ : ∃ AD : Addr, (if c = k + 1 then some (⟨g, 0, none⟩ : Addr) else some ⟨g, (k + 1) * 2, none⟩) = some AD ∧ Hid (∀ t u, news[t]? = some u → w.drew.cell? (AD.add t) = some u) := by
    by_cases h : c = k + 1
    · refine ⟨⟨g, 0, none⟩, by simp [h], fun t u hu => ?_⟩
      have h0 : news.length = 0 := by rw [hnl]; omega
      rw [List.length_eq_zero_iff.1 h0] at hu
      simp at hu
    · refine ⟨⟨g, (k + 1) * 2, none⟩, by simp [h], fun t u hu => ?_⟩
      rw [addr_add]
      exact hsrc t u hu
  have s1 := Lib.hid hnl
  have s2 : Hid (∀ u ∈ news, u.oneCell' = true) := by rw [hnews]; exact rCells_one _
  have s3 : Hid (∀ t, t < news.length → (w.drew.cell? ⟨g, 0 + k * 2 + t, none⟩).isSome = true ∧ w.drew.frozen? ⟨g, 0 + k * 2 + t, none⟩ = false) := by
    intro t ht
    have := row_cell hg (0 + k * 2 + t) (by omega)
    exact this
  obtain ⟨W1, hW1⟩ : ∃ W1, W1 = w.drew.setCells g (0 + k * 2) news := ⟨_, rfl⟩
  rw [← hW1] at h1 h2
  have hW1h := h1
  have hcl : ∀ ty cc, (Builtin.clear_ #[22] ty #[.slice (some ⟨g, (l.length - 1) * 2, none⟩) 1 cc]).run Try.prog W1 = .ok (.tuple #[]) (W1.setCells g ((l.length - 1) * 2) [.int .i64 0, .int .i64 0]) :=
    fun ty cc => by
      have := run_clear_sized (P := Try.prog) W1 22 34 ty (.agg #[.int .i64 0, .int .i64 0]) Try.underlying22 zero34 (by rw [zeros34]; simp [Value.oneCell']) g ((l.length - 1) * 2) cc
      rw [zeros34] at this
      exact this (fun j hj => (row_cell hW1h _ (by simp at hj; omega)).1) (fun j hj => (row_cell hW1h _ (by simp at hj; omega)).2)
  have hcl2 : ∀ ty, (Builtin.clear_ #[22] ty #[.slice (some ⟨g, (k + (l.length - (k + 1))) * 2, none⟩) (l.length - (k + (l.length - (k + 1)))) (c - (k + (l.length - (k + 1))))]).run Try.prog W1 = .ok (.tuple #[]) (W1.setCells g ((l.length - 1) * 2) [.int .i64 0, .int .i64 0]) := by
    intro ty
    rw [show k + (l.length - (k + 1)) = l.length - 1 from by omega, show l.length - (l.length - 1) = 1 from by omega]
    exact hcl ty _
  have H2 := Lib.hid h2
  have HC2 := Lib.hid hs2
  have G1 := grownBy_setCells g news (0 + k * 2) w.drew
  rw [← hW1] at G1
  have hW : Hid (W1 = w.drew.setCells g (0 + k * 2) news) := hW1
  have E1 := Lib.hid hfin
  have hkc : k + 1 ≤ c := by omega
  have hic : k ≤ c := by omega
  have h01 : (0 : Int) ≤ (k : Int) + 1 := by omega
  have h02 : (k : Int) + 1 ≤ (l.length : Int) := by omega
  clear hW1 e1 e2 hnews hnl hsrc ht hown hfin hg h1 h2 hW1h hs1 hs2 hcs hct hct1 hct2 hcl
  go_enter Try.func26, Try.ntmps26
  go_wp2_with fail
  go_region_law (refine step_append_room rfl (.tmp 22) (.tmp 25) 22 rfl 34 i0 2 Try.underlying22 hi0 hz1 g 0 k c (by simp [Act.eval, Act.put]) AD (l.length - (k + 1)) (c - (k + 1)) news (by simp [Act.eval, Act.put]) s1.out hsrc2.out s2.out (by omega) s3.out ?_; rw [← hW.out])
  go_wp2
  go_ret
  refine ⟨?_, ?_, ?_⟩
  · rw [show l.length - 1 = k + (l.length - (k + 1)) from by omega]
    rfl
  · exact own_mk hbg H2.out (by omega) (by unfold maxLen; omega) HC2.out E1.out
  · exact grownBy_trans ⟨G1.os, G1.tape, G1.output, G1.size, G1.block⟩ (grownBy_setCells _ _ _ _)
end Go.Proofs.Ytgckedeaoglehaa
