/- The walk of slices.Insert at ranges, one of them, onto a row that is the caller's own. -/
import Derived.Test.YtgckedeaoglehaaG
import Derived.Lib.Overlaps
namespace Go.Proofs.Ytgckedeaoglehaa
open Go.RowKit
set_option linter.unusedVariables false
set_option linter.unusedSimpArgs false
attribute [local go_sem ↓] Go.wp_at_zero Go.wp_at_succ

/-- What ranges behind an insertion are handed back as. -/
def RetIns (w : World) (base : Nat) (row : Option Nat) (l : List (Int × Int)) (e : Ending) (w' : World) : Prop :=
  ∃ A c, e = .returned (.slice A l.length c) ∧ w'.ownsRow base 34 2 (.slice A l.length c) l.length (rCells l) ∧ w.grownBy w' row

theorem blk_one {w : World} {g : Nat} {x : Int × Int} (hv : Blk w g 34 #[.int .i64 x.1, .int .i64 x.2]) : Sl w g (g + 1) 2 (some ⟨g, 0, none⟩) 1 1 (rCells [x]) :=
  ⟨rfl, Nat.le_refl _, (fun h => by cases h), fun _ => ⟨g, 0, rfl, Nat.le_refl _, by omega, fun j hj => by
    rw [Nat.zero_add, hv.rules.1 j]
    rcases j with _ | _ | j
    · rfl
    · rfl
    · simp [rCells] at hj
      omega⟩⟩

set_option maxHeartbeats 1000000 in
theorem insert_end {base n c g : Nat} {A : Option Addr} {l : List (Int × Int)} {x : Int × Int} {w : World} (hown : w.ownsRow base 34 2 (.slice A n c) n (rCells l)) (hbase : base ≤ w.heap.size) (hn : n ≤ 1000) (hv : Blk w g 34 #[.int .i64 x.1, .int .i64 x.2]) :
    Calls Try.prog 27 #[.slice A n c, .int .i64 n, .slice (some ⟨g, 0, none⟩) 1 1] w (RetIns w base (Value.ownBlock (.slice A n c)) (l ++ [x])) := by
  have hlen : n = l.length := by have := hown.1; rw [rCells_length] at this; omega
  subst hlen
  obtain ⟨i0, hi0, hz0, hz1, hz2⟩ := info_parts info34
  have hs := blk_one hv
  have hle : l.length ≤ c := (Sl.of_own hown).le
  have hcm : c ≤ 9223372036854775807 := by
    rcases hown.2 with ⟨h, h0⟩ | ⟨_, cap, _, h, _, _, _, h2, _⟩
    · injection h with _ _ h; omega
    · injection h with _ _ h; unfold maxLen at h2; omega
  have HO := Lib.hid hown
  have HS := Lib.hid hs
  have hA : ∃ A', (∀ w', (Instr.slice 22 (.slice A l.length c) (some (.int .i64 (l.length : Int))) none none).run Try.prog w' = .ok (.slice A' 0 (c - l.length)) w') := by
    obtain ⟨A', h, _⟩ := cut_l Try.underlying22 hi0 hz1 (Sl.of_own hown) l.length 0 (l.length : Int) rfl (by omega)
    exact ⟨A', h⟩
  obtain ⟨A', hcut⟩ := hA
  clear hown hs hv
  go_enter Try.func27, Try.ntmps27
  go_wp2_with (at_builtin; refine wpList_append_sl _ rfl (.tmp 23) (.tmp 24) _ rfl base 34 i0 _ 2 16 Try.underlying22 hi0 hz0 hz1 hz2 rfl (by omega) (.slice A l.length c) l.length _ rfl HO.out g (g + 1) _ 1 1 _ rfl HS.out (rCells_one _) (l.length + 1) rfl _ (rCells_append l [x]).symm (by unfold maxLen; omega) (by omega) hbase ?_; intro A2 c2 w2 hown2 hg2)
  go_ret
  exact ⟨A2, c2, by rw [List.length_append]; rfl, by rw [List.length_append]; exact hown2, hg2⟩

set_option maxHeartbeats 4000000 in
set_option maxRecDepth 100000 in
theorem insert_shift {base n c k g : Nat} {A : Option Addr} {l : List (Int × Int)} {x : Int × Int} {w : World} (hown : w.ownsRow base 34 2 (.slice A n c) n (rCells l)) (hk : k < n) (hn : n ≤ 1000) (hroom : n + 1 ≤ c) (hv : Blk w g 34 #[.int .i64 x.1, .int .i64 x.2]) (hne : some g ≠ Value.ownBlock (.slice A n c)) :
    Calls Try.prog 27 #[.slice A n c, .int .i64 k, .slice (some ⟨g, 0, none⟩) 1 1] w (RetIns w base (Value.ownBlock (.slice A n c)) (l.take k ++ x :: l.drop k)) := by
  have hlen : n = l.length := by have := hown.1; rw [rCells_length] at this; omega
  subst hlen
  obtain ⟨i0, hi0, hz0, hz1, hz2⟩ := info_parts info34
  obtain ⟨b, cur, rfl, hbg, hg, hnc, hcm, hcs, ht⟩ := own_split hown (by omega)
  unfold maxLen at hcm
  have hgb : g ≠ b := fun e => hne (by simp [Value.ownBlock, e])
  have hct : cur.toList.length = c * 2 := by rw [Array.length_toList]; exact hcs
  obtain ⟨cs, hcsq⟩ : ∃ cs, cs = rCells (l.drop k) := ⟨_, rfl⟩
  have hcl : cs.length = (l.length - k) * 2 := by rw [hcsq, rCells_length, List.length_drop]
  obtain ⟨vs, hvsq⟩ : ∃ vs, vs = rCells [x] := ⟨_, rfl⟩
  have hvl : vs.length = 2 := by rw [hvsq]; rfl
  obtain ⟨cur1, h1, e1⟩ := setCells_row b cs ((k + 1) * 2) w.drew cur hg (by omega)
  have hct1 : cur1.toList.length = c * 2 := by
    rw [e1, List.length_append, List.length_append, List.length_take, List.length_drop]
    omega
  have hs1 : cur1.size = c * 2 := by rw [← Array.length_toList]; exact hct1
  obtain ⟨W1, hW1⟩ : ∃ W1, W1 = w.drew.setCells b ((k + 1) * 2) cs := ⟨_, rfl⟩
  have G1 := grownBy_setCells b cs ((k + 1) * 2) w.drew
  rw [← hW1] at h1 G1
  obtain ⟨cur2, h2, e2⟩ := setCells_row b vs (k * 2) W1 cur1 h1 (by omega)
  have hct2 : cur2.toList.length = c * 2 := by
    rw [e2, List.length_append, List.length_append, List.length_take, List.length_drop]
    omega
  have hs2 : cur2.size = c * 2 := by rw [← Array.length_toList]; exact hct2
  have hfin : cur2.toList.take ((l.length + 1) * 2) = rCells (l.take k ++ x :: l.drop k) := by
    have t1 : cur1.toList.take (k * 2) = rCells (l.take k) := by
      rw [e1, List.append_assoc, List.take_append_of_le_length (by rw [List.length_take]; omega), List.take_take, Nat.min_eq_left (by omega), ← rCells_take, ← ht, List.take_take, Nat.min_eq_left (by omega)]
    have t2 : (cur1.toList.drop (k * 2 + vs.length)).take cs.length = cs := by
      rw [hvl, show k * 2 + 2 = (k + 1) * 2 from by omega, e1, List.append_assoc, List.drop_append, List.drop_of_length_le (by rw [List.length_take]; omega), List.length_take, Nat.min_eq_left (by omega), Nat.sub_self, List.drop_zero, List.nil_append]
      exact List.take_left
    rw [e2, t1, show rCells (l.take k ++ x :: l.drop k) = rCells (l.take k) ++ vs ++ cs from by rw [hvsq, hcsq, List.append_assoc, ← rCells_append, ← rCells_append]; rfl]
    have hl1 : (rCells (l.take k) ++ vs).length = k * 2 + 2 := by rw [List.length_append, rCells_length, List.length_take, hvl]; omega
    rw [List.take_append, hl1, List.take_of_length_le (by omega), show (l.length + 1) * 2 - (k * 2 + 2) = cs.length from by omega, t2]
  have hsz : (Try.prog.info? 34).map (·.size) = some 2 := by rw [hi0]; simp [hz1]
  have hz34 : ∀ w, (Go.sizeOf 34).run Try.prog w = .ok 2 w := fun w => size_of w hi0 hz1
  have hsa : w.shape? g = some (34, 2) := by unfold Blk at hv; simp [World.shape?, hv]
  have hsb : w.shape? b = some (34, c * 2) := by simp [World.shape?, hg, hcs]
  have hov : ∀ lb cb, (callFunc 29 #[.slice (some ⟨g, 0, none⟩) 1 1, .slice (some ⟨b, (k + 1) * 2, none⟩) lb cb]).run Try.prog w = .ok (.value (.bool false)) w := fun lb cb => by
    rw [run_callFunc_extern Try.func29 (by kernel_rfl) (by kernel_rfl) (by kernel_rfl) (e := Extern.SlicesOverlaps.overlaps #[22, 22] #[4]) (by kernel_rfl),
      Lib.run_overlaps_apart w 22 4 34 Try.underlying22 2 hz34 ⟨g, 0, none⟩ ⟨b, (k + 1) * 2, none⟩ 1 1 lb cb hgb 34 34 2 (c * 2) hsa hsb (by omega) (hv.rules.2 0) (hv.rules.2 2)]
    rfl
  have hcp1 : ∀ ty dc sc, (Builtin.copy_ #[22, 22] ty #[.slice (some ⟨b, (k + 1) * 2, none⟩) (l.length - k) dc, .slice (some ⟨b, k * 2, none⟩) (l.length + 1 - k) sc]).run Try.prog w.drew = .ok (goInt ((l.length - k : Nat) : Int)) W1 := fun ty dc sc => by
    rw [run_copy_sized w.drew 22 22 ty 34 2 b ((k + 1) * 2) (l.length - k) dc ⟨b, k * 2, none⟩ (l.length + 1 - k) sc cs Try.underlying22 hsz
      (by rw [hcl]; congr 1; simp only [Nat.min_def]; split <;> omega)
      (fun j v hj => by
        rw [addr_add]
        show w.cell? _ = _
        rw [cell_of_row w b _ cur 34 (0, 0) hg, ← Array.getElem?_toList]
        rw [hcsq, ← rCells_drop, List.getElem?_drop, ← ht, List.getElem?_take] at hj
        split at hj
        · exact hj
        · cases hj)
      (fun j hj => (row_cell (w := w) hg _ (by omega)).1) (fun j hj => (row_cell (w := w) hg _ (by omega)).2) (by rw [hcsq]; exact rCells_one _), ← hW1, show Nat.min (l.length + 1 - k) (l.length - k) = l.length - k from by simp only [Nat.min_def]; split <;> omega]
  have hvc : ∀ j v, vs[j]? = some v → W1.cell? ⟨g, 0 + j, none⟩ = some v := fun j v hj => by
    rw [hW1, World.cell?_setCells_out _ _ _ _ _ (fun h _ => absurd h hgb)]
    have := (blk_one hv).at_ (by omega)
    obtain ⟨b', o', e, _, _, hc⟩ := this
    injection e with e
    injection e with e1 e2
    subst e1 e2
    have hj2 : j < (rCells [x]).length := by have := (List.getElem?_eq_some_iff.1 hj).1; rw [hvl] at this; exact this
    rw [hvsq] at hj
    exact (hc j hj2).trans hj
  have hcp2 : ∀ (W : World), (∀ x, W.cell? x = W1.cell? x) → (∀ x, W.frozen? x = W1.frozen? x) → ∀ ty dc, (Builtin.copy_ #[22, 22] ty #[.slice (some ⟨b, k * 2, none⟩) (l.length + 1 - k) dc, .slice (some ⟨g, 0, none⟩) 1 1]).run Try.prog W = .ok (goInt ((1 : Nat) : Int)) (W.setCells b (k * 2) vs) := fun W hWc hWf ty dc => by
    rw [run_copy_sized W 22 22 ty 34 2 b (k * 2) (l.length + 1 - k) dc ⟨g, 0, none⟩ 1 1 vs Try.underlying22 hsz
      (by rw [hvl]; simp only [Nat.min_def]; split <;> omega)
      (fun j v hj => by rw [addr_add, hWc]; exact hvc j v hj)
      (fun j hj => by rw [hWc]; exact (row_cell h1 _ (by omega)).1) (fun j hj => by rw [hWf]; exact (row_cell h1 _ (by omega)).2) (by rw [hvsq]; exact rCells_one _), show Nat.min 1 (l.length + 1 - k) = 1 from by simp only [Nat.min_def]; split <;> omega]
  have H2 := Lib.hid h2
  have HC2 := Lib.hid hs2
  have HF := Lib.hid hfin
  have GG := Lib.hid G1
  have hw1 : IntKind.i64.wrap ((k : Int) + 1) = (k : Int) + 1 := IntWalk.i64_in _ (by omega)
  have hb1 : (0 : Int) ≤ (k : Int) + 1 := by omega
  have hin : k ≤ l.length := by omega
  have hz9 : ¬ ((k : Int) = (l.length : Int)) := by omega
  have hb2 : ¬ (c = k + 1) := by omega
  have hb3 : (k : Int) ≤ (l.length : Int) + 1 := by omega
  have hb4 : ¬ (c = k) := by omega
  have htn : ((k : Int) + 1).toNat = k + 1 := by omega
  clear hW1 e1 e2 hcsq hvsq ht hown hfin hg h1 h2 hs1 hs2 hcs hct hct1 hct2 G1 hvc hsa hsb hv hne
  go_enter Try.func27, Try.ntmps27
  go_wp2_with (simp only [hov])
  go_region_law (refine step_copy_eq rfl _ _ 22 22 rfl _ _ (by simp [Act.eval, Act.put]) (by simp [Act.eval, Act.put]) (hcp1 _ _ _) ?_)
  go_wp2_with (at_builtin; refine wpList_copy_eq _ rfl _ _ 22 22 rfl _ _ rfl rfl (hcp2 _ (fun _ => rfl) (fun _ => rfl) _ _) ?_)
  go_ret
  have hlf : (l.take k ++ x :: l.drop k).length = l.length + 1 := by simp; omega
  refine ⟨some ⟨b, 0, none⟩, c, by rw [hlf]; rfl, ?_, ?_⟩
  · rw [hlf]
    exact own_mk hbg H2.out (by omega) (by unfold maxLen; omega) HC2.out HF.out
  · have G1 := GG.out
    exact grownBy_trans ⟨G1.os, G1.tape, G1.output, G1.size, G1.block⟩ (grownBy_setCells _ _ _ _)
end Go.Proofs.Ytgckedeaoglehaa
