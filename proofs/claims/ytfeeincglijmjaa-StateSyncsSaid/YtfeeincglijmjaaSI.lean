/- The walk of slices.Delete at shown screens: of nine, the second one. -/
import Derived.Test.YtfeeincglijmjaaSB
import Derived.Test.YtfeeincglijmjaaZB1
import Derived.Outline
namespace Go.Proofs.Ytfeeincglijmjaa
open Go.RowKit
set_option linter.unusedVariables false
set_option linter.unusedSimpArgs false
attribute [local go_sem ↓] Go.wp_at_zero Go.wp_at_succ

theorem zero39 (w : World) : (zeroValue 39).run Try.prog w = .ok (.agg #[.int .i64 0, .int .i64 0, .int .i64 0, .slice none 0 0, .int .i64 0, .int .i64 0, .int .i64 0, .int .i64 0, .int .i64 0, .bool false, .bool false, .bool false, .bool false, .int .i64 0, .int .i64 0, .int .i64 0, .slice none 0 0]) w := by kernel_rfl
theorem zeros39 : (Builtin.zeroCells (Value.agg #[.int .i64 0, .int .i64 0, .int .i64 0, .slice none 0 0, .int .i64 0, .int .i64 0, .int .i64 0, .int .i64 0, .int .i64 0, .bool false, .bool false, .bool false, .bool false, .int .i64 0, .int .i64 0, .int .i64 0, .slice none 0 0]).cells 1).toList = [.int .i64 0, .int .i64 0, .int .i64 0, .slice none 0 0, .int .i64 0, .int .i64 0, .int .i64 0, .int .i64 0, .int .i64 0, .bool false, .bool false, .bool false, .bool false, .int .i64 0, .int .i64 0, .int .i64 0, .slice none 0 0] := by kernel_rfl

set_option maxHeartbeats 2000000 in
set_option maxRecDepth 100000 in
theorem deletes_any {base c : Nat} {A : Option Addr} {l : List Shn} {w : World} (hown : w.ownsRow base 39 17 (.slice A 9 c) 9 (shCells l)) :
    Calls Try.prog 84 #[.slice A 9 c, .int .i64 1, .int .i64 2] w fun e w' => e = .returned (.slice A 8 c) ∧ w'.ownsRow base 39 17 (.slice A 8 c) 8 (shCells (l.eraseIdx 1)) ∧ w.grownBy w' (Value.ownBlock (.slice A 9 c)) := by
  have hlen : l.length = 9 := by have := hown.1; rw [shCells_length] at this; omega
  obtain ⟨i0, hi0, hz0, hz1, hz2⟩ := info_parts info39x
  obtain ⟨g, cur, rfl, hbg, hg, hnc, hcm, hcs, ht⟩ := own_split hown (by omega)
  unfold maxLen at hcm
  obtain ⟨news, hnews⟩ : ∃ news, news = shCells (l.drop 2) := ⟨_, rfl⟩
  have hnl : news.length = 119 := by rw [hnews, shCells_length, List.length_drop, hlen]
  have hct : cur.toList.length = c * 17 := by rw [Array.length_toList]; exact hcs
  obtain ⟨cur1, h1, e1⟩ := setCells_row g news (0 + 1 * 17) w.drew cur hg (by omega)
  have hct1 : cur1.toList.length = c * 17 := by
    rw [e1, List.length_append, List.length_append, List.length_take, List.length_drop]
    omega
  have hs1 : cur1.size = c * 17 := by rw [← Array.length_toList]; exact hct1
  obtain ⟨cur2, h2, e2⟩ := setCells_row g [.int .i64 0, .int .i64 0, .int .i64 0, .slice none 0 0, .int .i64 0, .int .i64 0, .int .i64 0, .int .i64 0, .int .i64 0, .bool false, .bool false, .bool false, .bool false, .int .i64 0, .int .i64 0, .int .i64 0, .slice none 0 0] 136 _ cur1 h1 (by simp only [List.length_cons, List.length_nil]; omega)
  have hct2 : cur2.toList.length = c * 17 := by
    rw [e2, List.length_append, List.length_append, List.length_take, List.length_drop]
    simp only [List.length_cons, List.length_nil]
    omega
  have hs2 : cur2.size = c * 17 := by rw [← Array.length_toList]; exact hct2
  have ht1 : cur.toList.take 17 = shCells (l.take 1) := by
    rw [← shCells_take l 1, ← ht, List.take_take]
    rfl
  have hfin : cur2.toList.take (8 * 17) = shCells (l.eraseIdx 1) := by
    rw [e2, List.append_assoc, List.take_append_of_le_length (by rw [List.length_take]; omega), List.take_take, show min (8 * 17) 136 = 136 from rfl, e1, List.take_append_of_le_length (by rw [List.length_append, List.length_take]; omega)]
    rw [List.take_of_length_le (by rw [List.length_append, List.length_take]; omega)]
    rw [hnews, List.eraseIdx_eq_take_drop_succ, shCells_append, show 0 + 1 * 17 = 17 from rfl, ht1]
  have hsrc : Hid (∀ j u, news[j]? = some u → w.drew.cell? ((⟨g, 34, none⟩ : Addr).add j) = some u) := by
    intro j u hu
    rw [addr_add]
    show w.cell? _ = _
    rw [cell_of_row w g _ cur 39 (0, 0) hg, ← Array.getElem?_toList]
    rw [hnews, ← shCells_drop l 2, List.getElem?_drop, ← ht, List.getElem?_take] at hu
    split at hu
    · exact hu
    · cases hu
  have s1 : Hid (news.length = 7 * 17) := hnl
  have s2 : Hid (∀ u ∈ news, u.oneCell' = true) := by rw [hnews]; exact shCells_one _
  have s3 : Hid (∀ t, t < news.length → (w.drew.cell? ⟨g, 0 + 1 * 17 + t, none⟩).isSome = true ∧ w.drew.frozen? ⟨g, 0 + 1 * 17 + t, none⟩ = false) := by
    intro t ht
    have := row_cell hg (0 + 1 * 17 + t) (by omega)
    exact this
  obtain ⟨W1, hW1⟩ : ∃ W1, W1 = w.drew.setCells g (0 + 1 * 17) news := ⟨_, rfl⟩
  rw [← hW1] at h1 h2
  have hW1h := h1
  have hcl : ∀ ty cc, (Builtin.clear_ #[25] ty #[.slice (some ⟨g, 136, none⟩) 1 cc]).run Try.prog W1 = .ok (.tuple #[]) (W1.setCells g 136 [.int .i64 0, .int .i64 0, .int .i64 0, .slice none 0 0, .int .i64 0, .int .i64 0, .int .i64 0, .int .i64 0, .int .i64 0, .bool false, .bool false, .bool false, .bool false, .int .i64 0, .int .i64 0, .int .i64 0, .slice none 0 0]) :=
    fun ty cc => by
      have := run_clear_sized (P := Try.prog) W1 25 39 ty (.agg #[.int .i64 0, .int .i64 0, .int .i64 0, .slice none 0 0, .int .i64 0, .int .i64 0, .int .i64 0, .int .i64 0, .int .i64 0, .bool false, .bool false, .bool false, .bool false, .int .i64 0, .int .i64 0, .int .i64 0, .slice none 0 0]) Try.underlying25 zero39 (by rw [zeros39]; simp [Value.oneCell']) g 136 cc
      rw [zeros39] at this
      exact this (fun j hj => (row_cell hW1h _ (by simp at hj; omega)).1) (fun j hj => (row_cell hW1h _ (by simp at hj; omega)).2)
  have H2 := Lib.hid h2
  have HC2 := Lib.hid hs2
  have G1 := grownBy_setCells g news (0 + 1 * 17) w.drew
  rw [← hW1] at G1
  have hW : Hid (W1 = w.drew.setCells g (0 + 1 * 17) news) := hW1
  have E1 := Lib.hid hfin
  have hkc : 2 ≤ c := by omega
  have hic : 1 ≤ c := by omega
  have hi8 : 8 ≤ c := by omega
  have hp0 : 0 < c := by omega
  have hp1 : (1 : Int) ≤ (c : Int) := by omega
  have hp2 : (2 : Int) ≤ (c : Int) := by omega
  have hp3 : ¬ (c : Int) < 1 := by omega
  have hp4 : ¬ (c = 0) := by omega
  have hp5 : ¬ (c : Int) < 9 := by omega
  have hp6 : (9 : Int) ≤ (c : Int) := by omega
  have hp7 : (0 : Int) < (c : Int) := by omega
  have hi9 : ¬ (c = 2) := by omega
  have hi98 : ¬ (c = 8) := by omega
  have ab2 := addr_add g 0 34
  have ab8 := addr_add g 0 136
  have ab1 := addr_add g 0 17
  obtain ⟨Z, hZ⟩ : ∃ Z : List Value, Z = [.int .i64 0, .int .i64 0, .int .i64 0, .slice none 0 0, .int .i64 0, .int .i64 0, .int .i64 0, .int .i64 0, .int .i64 0, .bool false, .bool false, .bool false, .bool false, .int .i64 0, .int .i64 0, .int .i64 0, .slice none 0 0] := ⟨_, rfl⟩
  have HG1 := Lib.hid G1
  rw [← hZ] at hcl H2
  clear G1 hZ hW1 e1 e2 hnews hnl ht ht1 hown hfin hg h1 h2 hW1h hs1 hs2 hcs hct hct1 hct2
  go_enter Try.func84, Try.ntmps84
  go_wp2_with fail
  go_region_law (refine step_append_room rfl (.tmp 22) (.tmp 25) 25 rfl 39 i0 17 Try.underlying25 hi0 hz1 g 0 1 c (by simp [Act.eval, Act.put]) ⟨g, 34, none⟩ 7 (c - 2) news (by simp [Act.eval, Act.put]) s1.out hsrc.out s2.out (by omega) s3.out ?_; rw [← hW.out])
  go_wp2
  go_ret
  refine ⟨rfl, ?_, ?_⟩
  · exact own_mk hbg H2.out (by omega) (by unfold maxLen; omega) HC2.out E1.out
  · exact grownBy_trans ⟨HG1.out.os, HG1.out.tape, HG1.out.output, HG1.out.size, HG1.out.block⟩ (grownBy_setCells _ _ _ _)
end Go.Proofs.Ytfeeincglijmjaa
