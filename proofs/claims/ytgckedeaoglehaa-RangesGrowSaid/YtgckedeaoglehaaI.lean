/- The walk of slices.Insert at ranges where there is no room; Insert as a whole. -/
import Derived.Test.YtgckedeaoglehaaH
namespace Go.Proofs.Ytgckedeaoglehaa
open Go.RowKit
set_option linter.unusedVariables false
set_option linter.unusedSimpArgs false
attribute [local go_sem ↓] Go.wp_at_zero Go.wp_at_succ

set_option maxHeartbeats 4000000 in
set_option maxRecDepth 100000 in
theorem insert_grow {base n c k g : Nat} {A : Option Addr} {l : List (Int × Int)} {x : Int × Int} {w : World} (hown : w.ownsRow base 34 2 (.slice A n c) n (rCells l)) (hbase : base ≤ w.heap.size) (hk : k < n) (hn : n ≤ 1000) (hroom : c < n + 1) (hv : Blk w g 34 #[.int .i64 x.1, .int .i64 x.2]) :
    Calls Try.prog 27 #[.slice A n c, .int .i64 k, .slice (some ⟨g, 0, none⟩) 1 1] w (RetIns w base (Value.ownBlock (.slice A n c)) (l.take k ++ x :: l.drop k)) := by
  have hlen : n = l.length := by have := hown.1; rw [rCells_length] at this; omega
  subst hlen
  obtain ⟨i0, hi0, hz0, hz1, hz2⟩ := info_parts info34
  obtain ⟨b, cur, rfl, hbg, hg, hnc, hcm, hcs, ht⟩ := own_split hown (by omega)
  have hc : c = l.length := by omega
  subst hc
  have hct : cur.toList.length = l.length * 2 := by rw [Array.length_toList]; exact hcs
  have hbw : b < w.heap.size := (Array.getElem?_eq_some_iff.1 hg).1
  have hgw : g < w.heap.size := hv.lt
  obtain ⟨cs, hcsq⟩ : ∃ cs, cs = rCells (l.drop k) := ⟨_, rfl⟩
  have hcl : cs.length = (l.length - k) * 2 := by rw [hcsq, rCells_length, List.length_drop]
  obtain ⟨vs, hvsq⟩ : ∃ vs, vs = rCells [x] := ⟨_, rfl⟩
  have hvl : vs.length = 2 := by rw [hvsq]; rfl
  obtain ⟨us, husq⟩ : ∃ us, us = rCells (l.take k) := ⟨_, rfl⟩
  have hul : us.length = k * 2 := by rw [husq, rCells_length, List.length_take]; omega
  have hcur : cur.toList = us ++ cs := by
    rw [husq, hcsq, ← rCells_append, List.take_append_drop, ← ht, List.take_of_length_le (by omega)]
  have hold : (Builtin.firstCells i0.size k (.slice (some ⟨b, 0, none⟩) k l.length)).run Try.prog w.drew = .ok us.toArray w.drew := by
    rw [hz1]
    exact run_firstCells_some w.drew 2 k ⟨b, 0, none⟩ k l.length us hul (fun j v hj => by
      rw [addr_add]
      show w.cell? _ = _
      rw [cell_of_row w b _ cur 34 (0, 0) hg, ← Array.getElem?_toList, hcur, Nat.zero_add, List.getElem?_append_left (List.getElem?_eq_some_iff.1 hj).1]
      exact hj)
  have hik : k + (l.length + 1 - k) = l.length + 1 := by omega
  have hkk : (l.length : Int) + 1 - (k : Int) = ((l.length + 1 - k : Nat) : Int) := by omega
  have hrz : ∀ ty, (Builtin.append_ #[22, 3] ty #[.slice (some ⟨b, 0, none⟩) k l.length, .int .i64 ((l.length : Int) + 1 - (k : Int))]).run Try.prog w =
      .ok (.slice (some ⟨w.heap.size, 0, none⟩) (l.length + 1) (grownCap w (l.length + 1) l.length 34)) (w.drew.alloc (.cells (us.toArray ++ Builtin.zeroCells (Value.agg #[.int .i64 0, .int .i64 0]).cells (l.length + 1 - k) ++ Builtin.zeroCells (Value.agg #[.int .i64 0, .int .i64 0]).cells (grownCap w (l.length + 1) l.length 34 - (l.length + 1))) 34)) := fun ty => by
    have h := Lib.run_append_grow_zeros w 22 3 ty 34 i0 _ .i64 .i64 Try.underlying22 Try.underlying3 hi0 hz0 (some ⟨b, 0, none⟩) k l.length us hold (l.length + 1 - k) (by omega) (by omega) (by omega) (by omega) (by rw [hz2]; omega) (by rw [hz2, hik]; exact growslice_fits (by omega) (by omega))
    rw [hik] at h
    rw [hkk]
    exact h
  obtain ⟨G, hG⟩ : ∃ G, G = grownCap w (l.length + 1) l.length 34 := ⟨_, rfl⟩
  have hGn : l.length + 1 ≤ G := by rw [hG]; exact grownCap_ge w _ _ _
  have hG63 : G ≤ maxLen := by rw [hG]; exact grownCap_le_maxLen w (l.length + 1) l.length 34 (by unfold maxLen; omega)
  obtain ⟨ROW, hROW⟩ : ∃ ROW : Array Value, ROW = us.toArray ++ Builtin.zeroCells (Value.agg #[.int .i64 0, .int .i64 0]).cells (l.length + 1 - k) ++ Builtin.zeroCells (Value.agg #[.int .i64 0, .int .i64 0]).cells (G - (l.length + 1)) := ⟨_, rfl⟩
  rw [← hG] at hrz
  rw [← hROW] at hrz
  have hzc : (Value.agg #[.int .i64 0, .int .i64 0]).cells.size = 2 := by kernel_rfl
  have hRs : ROW.size = G * 2 := by
    rw [hROW, Array.size_append, Array.size_append, size_zeroCells, size_zeroCells, hzc, List.size_toArray, hul]
    omega
  have hRt : ROW.toList.take (k * 2) = us := by
    rw [hROW, Array.toList_append, Array.toList_append, List.append_assoc, ← hul]
    exact List.take_left
  obtain ⟨W1, hW1⟩ : ∃ W1, W1 = w.drew.alloc (.cells ROW 34) := ⟨_, rfl⟩
  rw [← hW1] at hrz
  have hN : W1.heap[w.heap.size]? = some (.cells ROW 34 (0, 0)) := by rw [hW1]; exact heap_alloc_new w.drew _
  have hBl : Below w.heap.size w W1 := by rw [hW1]; exact ((Below.refl _ w).drew).alloc (Nat.le_refl _) _
  have hRL : ROW.toList.length = G * 2 := by rw [Array.length_toList]; exact hRs
  obtain ⟨cur1, h1, e1⟩ := setCells_row w.heap.size vs (k * 2) W1 ROW hN (by omega)
  have hct1 : cur1.toList.length = G * 2 := by
    rw [e1, List.length_append, List.length_append, List.length_take, List.length_drop]
    omega
  have hs1 : cur1.size = G * 2 := by rw [← Array.length_toList]; exact hct1
  obtain ⟨W2, hW2⟩ : ∃ W2, W2 = W1.setCells w.heap.size (k * 2) vs := ⟨_, rfl⟩
  have G2 := grownBy_setCells w.heap.size vs (k * 2) W1
  rw [← hW2] at h1 G2
  have hBl2 : Below w.heap.size w W2 := hBl.grown G2 hBl.size (fun k hk => by injection hk with hk; omega)
  obtain ⟨cur2, h2, e2⟩ := setCells_row w.heap.size cs ((k + 1) * 2) W2.drew cur1 h1 (by omega)
  have hct2 : cur2.toList.length = G * 2 := by
    rw [e2, List.length_append, List.length_append, List.length_take, List.length_drop]
    omega
  have hs2 : cur2.size = G * 2 := by rw [← Array.length_toList]; exact hct2
  obtain ⟨W3, hW3⟩ : ∃ W3, W3 = W2.drew.setCells w.heap.size ((k + 1) * 2) cs := ⟨_, rfl⟩
  have G3 := grownBy_setCells w.heap.size cs ((k + 1) * 2) W2.drew
  rw [← hW3] at h2 G3
  have hBl3 : Below w.heap.size w W3 := hBl2.drew.grown G3 hBl2.size (fun k hk => by injection hk with hk; omega)
  have hfin : cur2.toList.take ((l.length + 1) * 2) = rCells (l.take k ++ x :: l.drop k) := by
    have t1 : cur1.toList.take ((k + 1) * 2) = us ++ vs := by
      rw [e1, hRt]
      have hl1 : (us ++ vs).length = (k + 1) * 2 := by rw [List.length_append]; omega
      rw [← hl1]
      exact List.take_left
    rw [e2, t1, show rCells (l.take k ++ x :: l.drop k) = us ++ vs ++ cs from by rw [hvsq, hcsq, husq, List.append_assoc, ← rCells_append, ← rCells_append]; rfl]
    have hl1 : (us ++ vs ++ cs).length = (l.length + 1) * 2 := by rw [List.length_append, List.length_append]; omega
    rw [← hl1]
    exact List.take_left
  have hsz : (Try.prog.info? 34).map (·.size) = some 2 := by rw [hi0]; simp [hz1]
  have hvc : ∀ j v, vs[j]? = some v → w.cell? ⟨g, 0 + j, none⟩ = some v := fun j v hj => by
    have := (blk_one hv).at_ (by omega)
    obtain ⟨b', o', e, _, _, hc⟩ := this
    injection e with e
    injection e with e1 e2
    subst e1 e2
    have hj2 : j < (rCells [x]).length := by have := (List.getElem?_eq_some_iff.1 hj).1; rw [hvl] at this; exact this
    rw [hvsq] at hj
    exact (hc j hj2).trans hj
  have hcpA : ∀ ty dc, (Builtin.copy_ #[22, 22] ty #[.slice (some ⟨w.heap.size, k * 2, none⟩) (l.length + 1 - k) dc, .slice (some ⟨g, 0, none⟩) 1 1]).run Try.prog W1 = .ok (goInt ((1 : Nat) : Int)) W2 := fun ty dc => by
    rw [run_copy_sized W1 22 22 ty 34 2 w.heap.size (k * 2) (l.length + 1 - k) dc ⟨g, 0, none⟩ 1 1 vs Try.underlying22 hsz
      (by rw [hvl]; simp only [Nat.min_def]; split <;> omega)
      (fun j v hj => by rw [addr_add, hBl.cell (p := ⟨g, 0 + j, none⟩) hgw]; exact hvc j v hj)
      (fun j hj => (row_cell hN _ (by omega)).1) (fun j hj => (row_cell hN _ (by omega)).2) (by rw [hvsq]; exact rCells_one _), ← hW2, show Nat.min 1 (l.length + 1 - k) = 1 from by simp only [Nat.min_def]; split <;> omega]
  have hcpB : ∀ ty dc sc, (Builtin.copy_ #[22, 22] ty #[.slice (some ⟨w.heap.size, (k + 1) * 2, none⟩) (l.length - k) dc, .slice (some ⟨b, k * 2, none⟩) (l.length - k) sc]).run Try.prog W2.drew = .ok (goInt ((l.length - k : Nat) : Int)) W3 := fun ty dc sc => by
    rw [run_copy_sized W2.drew 22 22 ty 34 2 w.heap.size ((k + 1) * 2) (l.length - k) dc ⟨b, k * 2, none⟩ (l.length - k) sc cs Try.underlying22 hsz
      (by rw [hcl]; congr 1; simp only [Nat.min_def]; split <;> omega)
      (fun j v hj => by
        rw [addr_add]
        show W2.cell? _ = _
        rw [hBl2.cell (p := ⟨b, k * 2 + j, none⟩) hbw, cell_of_row w b _ cur 34 (0, 0) hg, ← Array.getElem?_toList, hcur, List.getElem?_append_right (by omega), hul, Nat.add_sub_cancel_left]
        exact hj)
      (fun j hj => (row_cell (w := W2) h1 _ (by omega)).1) (fun j hj => (row_cell (w := W2) h1 _ (by omega)).2) (by rw [hcsq]; exact rCells_one _), ← hW3, show Nat.min (l.length - k) (l.length - k) = l.length - k from by simp only [Nat.min_def]; split <;> omega]
  have H2 := Lib.hid h2
  have HC2 := Lib.hid hs2
  have HF := Lib.hid hfin
  have hg63 := hG63
  unfold maxLen at hg63
  have hGi : ¬ (G = k) := by omega
  have hGim : ¬ (G = k + 1) := by omega
  have hci : ¬ (l.length = k) := by omega
  have hw1 : IntKind.i64.wrap ((k : Int) + 1) = (k : Int) + 1 := IntWalk.i64_in _ (by omega)
  have hb1 : (0 : Int) ≤ (k : Int) + 1 := by omega
  have hin : k ≤ l.length := by omega
  have hz9 : ¬ ((k : Int) = (l.length : Int)) := by omega
  have hz3 : (l.length : Int) < (l.length : Int) + 1 := by omega
  have hb3 : (k : Int) ≤ (l.length : Int) := by omega
  have htn : ((k : Int) + 1).toNat = k + 1 := by omega
  clear hW1 hW2 hW3 e1 e2 hcsq hvsq husq ht hown hfin hg h1 h2 hs1 hs2 hcs hct hct1 hct2 G2 G3 hvc hv hkk hik hold hROW hG hRs hRt hRL hcur hN hBl hBl2 hul hvl hcl
  go_enter Try.func27, Try.ntmps27
  go_wp2_with (first
    | (at_builtin; refine Lib.wpList_append_run _ rfl _ _ _ _ rfl _ _ rfl rfl _ _ (hrz _) ?_)
    | (at_builtin; refine wpList_copy_eq _ rfl _ _ 22 22 rfl _ _ rfl rfl (hcpA _ _) ?_))
  go_region_law (refine step_copy_eq rfl _ _ 22 22 rfl _ _ (by simp [Act.eval, Act.put]) (by simp [Act.eval, Act.put]) (hcpB _ _ _) ?_)
  go_wp2
  go_ret
  have hlf : (l.take k ++ x :: l.drop k).length = l.length + 1 := by simp; omega
  refine ⟨some ⟨w.heap.size, 0, none⟩, G, by rw [hlf]; rfl, ?_, grownBy_below hBl3 (Nat.le_refl _)⟩
  rw [hlf]
  exact own_mk hbase H2.out hGn hG63 HC2.out HF.out

/-- slices.Insert of one range. -/
theorem insert_any {base n c k g : Nat} {A : Option Addr} {l : List (Int × Int)} {x : Int × Int} {w : World} (hown : w.ownsRow base 34 2 (.slice A n c) n (rCells l)) (hbase : base ≤ w.heap.size) (hk : k ≤ n) (hn : n ≤ 1000) (hv : Blk w g 34 #[.int .i64 x.1, .int .i64 x.2]) (hne : some g ≠ Value.ownBlock (.slice A n c)) :
    Calls Try.prog 27 #[.slice A n c, .int .i64 k, .slice (some ⟨g, 0, none⟩) 1 1] w (RetIns w base (Value.ownBlock (.slice A n c)) (l.take k ++ x :: l.drop k)) := by
  by_cases h : k < n
  · by_cases hr : n + 1 ≤ c
    · exact insert_shift hown h hn hr hv hne
    · exact insert_grow hown hbase h hn (by omega) hv
  · obtain rfl : k = n := by omega
    have hlen : k = l.length := by have := hown.1; rw [rCells_length] at this; omega
    have := insert_end hown hbase hn hv
    rw [List.take_of_length_le (by omega), List.drop_of_length_le (by omega)]
    exact this
end Go.Proofs.Ytgckedeaoglehaa
