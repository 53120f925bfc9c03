/- The walk of varint.All. -/
import Derived.Test.YtfeeincglijmjaaVJ
import Derived.RegionTactic
import Derived.ChangeAlike
import Derived.BigRegion
namespace Go.Proofs.Ytfeeincglijmjaa
open Go.RowKit
set_option linter.unusedVariables false
set_option linter.unusedSimpArgs false
attribute [local go_sem ↓] Go.wp_at_zero Go.wp_at_succ

set_option maxHeartbeats 4000000 in
theorem all_any {lo up : Nat} {A : Option Addr} {n c : Nat} {l : List UInt8} {w : World} (hr : Sl w lo up 1 A n c (byteCells l)) (hup : up ≤ w.heap.size) (hn : n ≤ 1000000) :
    Calls Try.prog 64 #[.slice A n c] w (RetIE w (vAll l).1 (vAll l).2) := by
  obtain ⟨i0, hi0, hz0, hz1, hz2⟩ := info_parts info3
  have hl0 : n = l.length := by have := hr.len; rw [byteCells_length] at this; omega
  subst hl0
  go_enter Try.func64, Try.ntmps64
  go_wp2_with fail
  go_loopg [2] l.length (fun gh s2 wr => ∃ (r : List UInt8) (A c : _) (acc : List Int) (A2 c2 : _) (k : Nat) (ev : Int), Blk wr w.heap.size 23 #[.slice A r.length c] ∧ Blk wr (w.heap.size + 1) 26 #[.int .i64 ev] ∧ Sl wr lo up 1 A r.length c (byteCells r) ∧ s2 = .slice A2 acc.length c2 ∧
    wr.ownsRow (w.heap.size + 2) 3 1 (.slice A2 acc.length c2) acc.length (intCells acc) ∧ Below w.heap.size w wr ∧ w.heap.size + 2 ≤ wr.heap.size ∧ acc.length ≤ l.length + 1 ∧ (ev = 0 ∧ gh = r.length ∧ acc.length + r.length ≤ l.length ∧ r.length ≤ k ∧ Hid (vAllF l.length l = (vAllF k r).map (acc ++ ·)) ∨ ev = 10 ∧ gh = 0 ∧ Hid (vAll l = ([], 10))))
  case atStart =>
    exact ⟨l, A, c, [], none, 0, l.length, 0, (Blk.new _ _ _ rfl).alloc _, Blk.new _ _ _ (by simp), (hr.alloc hup _).alloc (by simp; omega) _, rfl, World.ownsRow_nil _ _ _ _, ((Below.refl _ w).alloc (Nat.le_refl _) _).alloc (by simp) _, by simp, by simp, .inl ⟨rfl, rfl, by simp, by omega, Lib.hid (by cases vAllF l.length l <;> simp)⟩⟩
  case round =>
    obtain ⟨r, A, c, acc, A2, c2, k, ev, bB, bE, hs, rfl, hown, bb, hsz, hacc, hst⟩ := hrel
    have bs1 := bb.size
    have ⟨kb, fb⟩ := bB.rules
    have ⟨ke, fe⟩ := bE.rules
    clear hr
    rcases hst with ⟨rfl, hg, hlen, hk, hall⟩ | ⟨rfl, hg, hall⟩
    rotate_left
    · have hv := hall.out
      have Hv := Lib.hid hv
      clear hall hv
      by_cases h : 0 < r.length
      · go_wp2_with fail
        go_region
        go_wp2
        refine bodyPost_ret (v := .tuple #[.slice none 0 0, .int .i64 10]) (by simp [results, Try.results20, go_sem, ke]) rfl ⟨none, 0, by rw [Hv.out]; rfl, by rw [Hv.out]; exact World.ownsRow_nil _ _ _ _, (bb.setCell (by simp) _).drew⟩
      · go_wp2_with fail
        go_region
        go_wp2
        refine bodyPost_ret (v := .tuple #[.slice none 0 0, .int .i64 10]) (by simp [results, Try.results20, go_sem, ke]) rfl ⟨none, 0, by rw [Hv.out]; rfl, by rw [Hv.out]; exact World.ownsRow_nil _ _ _ _, (bb.setCell (by simp) _).drew⟩
    by_cases h : 0 < r.length
    · obtain ⟨kk, rfl⟩ : ∃ kk, k = kk + 1 := ⟨k - 1, by omega⟩
      have HG := Lib.hid (fun W (h : Sl W lo up 1 A r.length c (byteCells r)) (h1 : Blk W w.heap.size 23 #[.slice A r.length c]) (h2 : Blk W (w.heap.size + 1) 26 #[.int .i64 0]) => next_any h h1 h2 (by omega) (.inr hup) (.inr (by omega)))
      rcases vGet_cases r with ⟨h0, h1, h2⟩ | h0
      · have hall2 : vAllF l.length l = (vAllF kk (r.drop (vGet r).2.1)).map ((acc ++ [(vGet r).1]) ++ ·) := by
          rw [hall.out, vAllF_cons h, if_pos h0]
          cases vAllF kk (r.drop (vGet r).2.1) <;> simp
        have Hall2 := Lib.hid hall2
        clear hall hall2
        obtain ⟨⟨x, s, e⟩, hgq⟩ : ∃ q, q = vGet r := ⟨_, rfl⟩
        rw [← hgq] at HG Hall2 h0 h1 h2
        clear hgq
        simp only at h0 h1 h2
        subst h0
        have hdl : (r.drop s).length = r.length - s := List.length_drop
        have Hdl := Lib.hid hdl
        clear hdl
        go_wp2_with fail
        refine (HG.out _ hs bB bE).mono ?_
        rintro e w2 ⟨rfl, A3, hs3, rfl⟩
        simp only at hs3 ⊢
        have b2 : Blk ((wr.setCell ⟨w.heap.size + 1, 0, none⟩ (.int .i64 0)).setCell ⟨w.heap.size, 0, none⟩ (.slice A3 (r.length - s) (c - s))) w.heap.size 23 #[.slice A3 (r.length - s) (c - s)] := (bB.far (by simp) _).set_ 0 _
        have e2 : Blk ((wr.setCell ⟨w.heap.size + 1, 0, none⟩ (.int .i64 0)).setCell ⟨w.heap.size, 0, none⟩ (.slice A3 (r.length - s) (c - s))) (w.heap.size + 1) 26 #[.int .i64 0] := (bE.set_ 0 (.int .i64 0)).far (by simp) _
        have s2 : Sl ((wr.setCell ⟨w.heap.size + 1, 0, none⟩ (.int .i64 0)).setCell ⟨w.heap.size, 0, none⟩ (.slice A3 (r.length - s) (c - s))) lo up 1 A3 (r.length - s) (c - s) (byteCells (r.drop s)) := (hs3.setCell (.inr (by simp; omega)) _).setCell (.inr hup) _
        have o2 : ((wr.setCell ⟨w.heap.size + 1, 0, none⟩ (.int .i64 0)).setCell ⟨w.heap.size, 0, none⟩ (.slice A3 (r.length - s) (c - s))).ownsRow (w.heap.size + 2) 3 1 (.slice A2 acc.length c2) acc.length (intCells acc) := ownsRow_setCell_below (ownsRow_setCell_below hown (by simp) _) (by simp) _
        have bb2 : Below w.heap.size w ((wr.setCell ⟨w.heap.size + 1, 0, none⟩ (.int .i64 0)).setCell ⟨w.heap.size, 0, none⟩ (.slice A3 (r.length - s) (c - s))) := (bb.setCell (by simp) _).setCell (Nat.le_refl _) _
        have z2 : wr.heap.size ≤ ((wr.setCell ⟨w.heap.size + 1, 0, none⟩ (.int .i64 0)).setCell ⟨w.heap.size, 0, none⟩ (.slice A3 (r.length - s) (c - s))).heap.size := by simp
        generalize (wr.setCell ⟨w.heap.size + 1, 0, none⟩ (.int .i64 0)).setCell ⟨w.heap.size, 0, none⟩ (.slice A3 (r.length - s) (c - s)) = w2 at *
        clear kb ke fb fe
        go_wp2_with (at_builtin; go_loud (refine wpList_append_sl _ rfl (.tmp 13) (.tmp 16) _ rfl (w.heap.size + 2) 3 i0 _ 1 8 Try.underlying88 hi0 hz0 hz1 hz2 rfl (by omega) (.slice A2 acc.length c2) acc.length _ rfl (own_alloc o2 _) w2.heap.size (w2.heap.size + 1) _ 1 1 _ rfl (Sl.new w2 3 _ 1 1 1 _ rfl (by omega) rfl rfl) (by intro u hu; simp at hu; subst hu; rfl) (acc.length + 1) rfl _ rfl (by unfold maxLen; omega) (by omega) (by first | omega | (simp; omega)) ?_; intro A4 c4 w4 hown4 hg4; have hb4 := grown_below (B := w.heap.size + 2) hg4 (by first | omega | (simp; omega)) (fun k hk => (o2.lt k hk).1)))
        go_roundg (r.length - s)
        case measure => omega
        case rel =>
          refine ⟨r.drop s, A3, c - s, acc ++ [x], A4, c4, kk, 0, ?_, ?_, ?_, ?_, ?_, (bb2.alloc (by omega) _).trans (hb4.mono (by omega)), ?_, ?_, .inl ⟨rfl, Hdl.out.symm, ?_, ?_, Hall2⟩⟩
          · rw [Hdl.out]; exact (b2.alloc _).below hb4 (by omega)
          · exact (e2.alloc _).below hb4 (by omega)
          · rw [Hdl.out]; exact (s2.alloc (by omega) _).below hb4 (by omega)
          · rw [List.length_append]; rfl
          · rw [List.length_append, intCells_append]; exact hown4
          · have := hb4.size; simp at this; omega
          · rw [List.length_append]; simp; omega
          · rw [List.length_append, Hdl.out]; simp; omega
          · rw [Hdl.out]; omega
      · have hj : vAll l = ([], 10) := by
          unfold vAll
          rw [hall.out, vAllF_cons h, h0]
          rfl
        rw [h0] at HG
        have Hj := Lib.hid hj
        clear hall hj
        go_wp2_with fail
        refine (HG.out _ hs bB bE).mono ?_
        rintro e w2 ⟨rfl, A3, hs3, rfl⟩
        simp only at hs3 ⊢
        have b2 : Blk ((wr.setCell ⟨w.heap.size + 1, 0, none⟩ (.int .i64 10)).setCell ⟨w.heap.size, 0, none⟩ (.slice A3 (r.length - 0) (c - 0))) w.heap.size 23 #[.slice A3 (r.length - 0) (c - 0)] := (bB.far (by simp) _).set_ 0 _
        have e2 : Blk ((wr.setCell ⟨w.heap.size + 1, 0, none⟩ (.int .i64 10)).setCell ⟨w.heap.size, 0, none⟩ (.slice A3 (r.length - 0) (c - 0))) (w.heap.size + 1) 26 #[.int .i64 10] := (bE.set_ 0 (.int .i64 10)).far (by simp) _
        have s2 : Sl ((wr.setCell ⟨w.heap.size + 1, 0, none⟩ (.int .i64 10)).setCell ⟨w.heap.size, 0, none⟩ (.slice A3 (r.length - 0) (c - 0))) lo up 1 A3 (r.length - 0) (c - 0) (byteCells (r.drop 0)) := (hs3.setCell (.inr (by simp; omega)) _).setCell (.inr hup) _
        have o2 : ((wr.setCell ⟨w.heap.size + 1, 0, none⟩ (.int .i64 10)).setCell ⟨w.heap.size, 0, none⟩ (.slice A3 (r.length - 0) (c - 0))).ownsRow (w.heap.size + 2) 3 1 (.slice A2 acc.length c2) acc.length (intCells acc) := ownsRow_setCell_below (ownsRow_setCell_below hown (by simp) _) (by simp) _
        have bb2 : Below w.heap.size w ((wr.setCell ⟨w.heap.size + 1, 0, none⟩ (.int .i64 10)).setCell ⟨w.heap.size, 0, none⟩ (.slice A3 (r.length - 0) (c - 0))) := (bb.setCell (by simp) _).setCell (Nat.le_refl _) _
        have z2 : wr.heap.size ≤ ((wr.setCell ⟨w.heap.size + 1, 0, none⟩ (.int .i64 10)).setCell ⟨w.heap.size, 0, none⟩ (.slice A3 (r.length - 0) (c - 0))).heap.size := by simp
        generalize (wr.setCell ⟨w.heap.size + 1, 0, none⟩ (.int .i64 10)).setCell ⟨w.heap.size, 0, none⟩ (.slice A3 (r.length - 0) (c - 0)) = w2 at *
        clear kb ke fb fe
        have ⟨ke, fe⟩ := e2.rules
        have ⟨kb, fb⟩ := b2.rules
        have ne1 : ¬ (10 : Int) = 0 := by decide
        clear kb ke fb fe
        go_wp2_with (at_builtin; go_loud (refine wpList_append_sl _ rfl (.tmp 13) (.tmp 16) _ rfl (w.heap.size + 2) 3 i0 _ 1 8 Try.underlying88 hi0 hz0 hz1 hz2 rfl (by omega) (.slice A2 acc.length c2) acc.length _ rfl (own_alloc o2 _) w2.heap.size (w2.heap.size + 1) _ 1 1 _ rfl (Sl.new w2 3 _ 1 1 1 _ rfl (by omega) rfl rfl) (by intro u hu; simp at hu; subst hu; rfl) (acc.length + 1) rfl _ rfl (by unfold maxLen; omega) (by omega) (by first | omega | (simp; omega)) ?_; intro A4 c4 w4 hown4 hg4; have hb4 := grown_below (B := w.heap.size + 2) hg4 (by first | omega | (simp; omega)) (fun k hk => (o2.lt k hk).1); have e3 := (e2.alloc (.cells #[.int .i64 0] 3)).below hb4 (by omega); have ⟨ke, fe⟩ := e3.rules; have b3 := (b2.alloc (.cells #[.int .i64 0] 3)).below hb4 (by omega); have ⟨kb, fb⟩ := b3.rules))
        go_roundg 0
        case measure => omega
        case rel =>
          refine ⟨r.drop 0, A3, c - 0, acc ++ [0], A4, c4, 0, 10, ?_, ?_, ?_, ?_, ?_, (bb2.alloc (by omega) _).trans (hb4.mono (by omega)), ?_, ?_, .inr ⟨rfl, rfl, Hj⟩⟩
          · exact b3
          · exact e3
          · exact (s2.alloc (by omega) _).below hb4 (by omega)
          · rw [List.length_append]; rfl
          · rw [List.length_append, intCells_append]; exact hown4
          · have := hb4.size; simp at this; omega
          · rw [List.length_append]; simp; omega
    · obtain rfl : r = [] := List.eq_nil_of_length_eq_zero (by omega)
      have hj : vAll l = (acc, 0) := by
        unfold vAll
        rw [hall.out, vAllF_nil]
        simp
      rw [hj]
      clear hall
      go_wp2
      refine bodyPost_ret (v := .tuple #[.slice A2 acc.length c2, .int .i64 0]) (by simp [results, Try.results20, go_sem, ke]) rfl ⟨A2, c2, rfl, own_more (ownsRow_setCell_below hown (by simp) _) (by omega), bb.setCell (by simp) _⟩
end Go.Proofs.Ytfeeincglijmjaa
