/- The walk of sent.parted: the packets of which something is so, and the others. -/
import Derived.Test.YtgebebdapfnmpaaF
namespace Go.Proofs.Ytgebebdapfnmpaa
open Go.RowKit
set_option linter.unusedVariables false
set_option linter.unusedSimpArgs false
attribute [local go_sem] Oper.semAt_some

/-- What two lists of the callee's own are handed back as. -/
def RetTwo (w : World) (l1 l2 : List Pk) (e : Ending) (w' : World) : Prop := ∃ A1 c1 A2 c2, e = .returned (.tuple #[.slice A1 l1.length c1, .slice A2 l2.length c2]) ∧
  w'.ownsRow w.heap.size 27 5 (.slice A1 l1.length c1) l1.length (pCells l1) ∧ w'.ownsRow w.heap.size 27 5 (.slice A2 l2.length c2) l2.length (pCells l2) ∧ Below w.heap.size w w'

theorem not_rowt {W : World} {g base n : Nat} {t : TypeId} {v : Value} {xs : List Value} {cs : Array Value} (ht : t ≠ 27) (hb : Blk W g t cs) (h : W.ownsRow base 27 5 v n xs) : some g ≠ v.ownBlock := by
  rcases h.2 with ⟨rfl, _⟩ | ⟨g', cap, cur, rfl, _, hgb, _⟩
  · simp [Value.ownBlock]
  · intro e
    obtain rfl : g = g' := by simpa [Value.ownBlock] using e
    unfold Blk at hb
    rw [hb] at hgb
    injection hgb with hgb
    injection hgb with _ h2
    exact ht h2

set_option maxRecDepth 100000 in
set_option maxHeartbeats 8000000 in
theorem parted_lost {lo up c : Nat} {A : Option Addr} {k : Nat} {L M : List Pk} {g1 g2 g3 : Nat} {w : World} (hs : Sl w lo up 5 A k c (pCells L)) (hup : up ≤ w.heap.size) (hk : k ≤ 9223372036854775807) (hL : pWf L) (hM : pOk L ∧ M = L ∨ ¬ pOk L ∧ M = []) (q : Pk → Bool)
    (H : ∀ p ∈ M, ∀ W : World, Below w.heap.size w W → Calls Try.prog 17 #[p.val, .pointer (some ⟨g1, 0, none⟩), .pointer (some ⟨g2, 0, none⟩), .pointer (some ⟨g3, 0, none⟩)] W fun e w' => e = .returned (.bool (q p)) ∧ Below W.heap.size W w') :
    Calls Try.prog 16 #[.slice A k c, .func (.func 17) #[] #[.pointer (some ⟨g1, 0, none⟩), .pointer (some ⟨g2, 0, none⟩), .pointer (some ⟨g3, 0, none⟩)]] w (RetTwo w (M.filter q) (M.filter fun p => !q p)) := by
  obtain ⟨i0, hi0, hz0, hz1, hz2⟩ := info_parts info27
  have hMl : M.length ≤ 300 := by rcases hM with ⟨h, rfl⟩ | ⟨_, rfl⟩; exact h.2; simp
  have HM := Lib.hid hM
  have HH := Lib.hid (fun l n (p : Pk) (hp : p ∈ M) (W : World) hW => CallsIn.inRound (F := Fence.wide) l ((callsIn_wide (n := n)).2 (H p hp W hW)))
  refine (callsIn_wide (n := 9)).1 ?_
  refine callsIn_of_wp_marks Try.func16 rfl trivial ?_ rfl
  simp only [Try.ntmps16, List.size_toArray, List.length_cons, List.length_nil, Nat.reduceAdd, Nat.reduceSub, Array.replicate_succ, Array.replicate_zero, List.push_toArray, List.append_toArray, List.nil_append, List.cons_append]
  clear hM H
  gi_wp2_with (refine ⟨trivial, ?_⟩; gi_at_call 15; refine (all_in _ _ _ _ _).mono ?_; rintro e w' ⟨rfl, rfl⟩)
  obtain ⟨W0, hW0⟩ : ∃ W0, (((w.alloc (.cells #[.func (.func 17) #[] #[.pointer (some ⟨g1, 0, none⟩), .pointer (some ⟨g2, 0, none⟩), .pointer (some ⟨g3, 0, none⟩)]] 47)).alloc (.cells #[.slice none 0 0] 22)).alloc (.cells #[.slice none 0 0] 22)).alloc (.cells #[.slice A k c] 22) = W0 := ⟨_, rfl⟩
  have bF : Blk W0 w.heap.size 47 #[.func (.func 17) #[] #[.pointer (some ⟨g1, 0, none⟩), .pointer (some ⟨g2, 0, none⟩), .pointer (some ⟨g3, 0, none⟩)]] := by rw [← hW0]; exact (((Blk.new w 47 _ rfl).alloc _).alloc _).alloc _
  have bS : Blk W0 (w.heap.size + 1) 22 #[.slice none 0 0] := by rw [← hW0]; exact ((Blk.new _ 22 _ (by simp)).alloc _).alloc _
  have bT : Blk W0 (w.heap.size + 1 + 1) 22 #[.slice none 0 0] := by rw [← hW0]; exact (Blk.new _ 22 _ (by simp)).alloc _
  have bL : Blk W0 (w.heap.size + 1 + 1 + 1) 22 #[.slice A k c] := by rw [← hW0]; exact Blk.new _ 22 _ (by simp)
  have hB0 : Below w.heap.size w W0 := by rw [← hW0]; exact ((((Below.refl _ w).alloc (Nat.le_refl _) _).alloc (by simp) _).alloc (by simp; omega) _).alloc (by simp; omega) _
  have hs0 : Sl W0 lo up 5 A k c (pCells L) := hs.below hB0 hup
  have hsz : w.heap.size + 4 ≤ W0.heap.size := by rw [← hW0]; simp
  rw [hW0]
  clear hW0
  refine wpIn_rangeFunc_ownH rfl (by omega) (gf := 20) (lb := #[.pointer (some ⟨w.heap.size + 1 + 1 + 1, 0, none⟩)]) rfl trivial (enters_of Try.func20 (by kernel_rfl) rfl)
    (all_stops (9 - 1) (by omega) (w.heap.size + 1 + 1 + 1) w.heap.size W0 hs0 hk hup (by omega) hL (bL.rules.1 0) (by omega) HM.out) belowK_t (belowK_b (by omega)) (Below.refl _ _) (fun _ => rfl)
    (fun pre W => (Blk W w.heap.size 47 #[.func (.func 17) #[] #[.pointer (some ⟨g1, 0, none⟩), .pointer (some ⟨g2, 0, none⟩), .pointer (some ⟨g3, 0, none⟩)]] ∧ Two W w.heap.size (w.heap.size + 1) (w.heap.size + 1 + 1) ((vals pre).filter q) ((vals pre).filter fun p => !q p)) ∧ Below w.heap.size w W)
    (fun _ _ _ => False)
    (OwnFrom.and (OwnFrom.and (blk_from _ _ _ _) (two_from _ _ _ _ _ _)) (ownFrom_below (Nat.le_refl _) (by omega)))
    (fun _ _ _ _ _ hs _ _ => hs)
    ⟨⟨bF, none, 0, none, 0, bS, bT, World.ownsRow_nil _ _ _ _, World.ownsRow_nil _ _ _ _, fun g h => by cases h⟩, hB0⟩
    (fun x' a' W => ∃ Bx, w.heap.size + 1 + 1 < Bx ∧ Blk W Bx 27 #[.int .i64 x'.1.no, .int .i64 x'.1.ti, .int .i64 x'.1.sz, .bool x'.1.el, .bool x'.1.pr] ∧ a' = { tmps := #[.slice A k c, .func (.func 17) #[] #[.pointer (some ⟨g1, 0, none⟩), .pointer (some ⟨g2, 0, none⟩), .pointer (some ⟨g3, 0, none⟩)], undef, .pointer (some ⟨w.heap.size, 0, none⟩), .pointer (some ⟨w.heap.size + 1, 0, none⟩), .pointer (some ⟨w.heap.size + 1 + 1, 0, none⟩), .pointer (some ⟨Bx, 0, none⟩), .slice A k c, .func (.func 20) #[] #[.pointer (some ⟨w.heap.size + 1 + 1 + 1, 0, none⟩)], x'.1.val, undef, undef, undef, undef, undef, undef, undef, undef, undef, undef, undef, undef, undef], defers := [] })
    (fun x a' _ X Y row hs hg hr => by obtain ⟨Bx, h1, h2, h3⟩ := hs; exact ⟨Bx, h1, blk_from _ Bx 27 (fun (_ : Unit) => _) () X Y row h2 hg hr, h3⟩)
    ?assign ?body ?done ?stop
  case assign =>
    rintro l pre ⟨⟨no, ti, sz, el, pr⟩, hx⟩ W K ⟨⟨bF1, hT1⟩, hB1⟩ hK
    simp only [Pk.val] at *
    gi_wp2
    exact hK _ _ ((KeepsOthers.alloc _ _).from _) ((Below.refl _ W).alloc hB1.size _) ⟨⟨bF1.alloc _, hT1.alloc _⟩, hB1.alloc hB1.size _⟩ ⟨W.heap.size, by obtain ⟨_, _, _, _, _, h, _⟩ := hT1; exact h.lt, Blk.new W 27 _ rfl, rfl⟩
  case body =>
    rintro l pre ⟨p, hx⟩ a' W hl ⟨r, hr⟩ ⟨⟨bF1, hT1⟩, hB1⟩ ⟨Bx, hBx, bX, rfl⟩ hlt
    have ⟨kf, ff⟩ := bF1.rules
    have ⟨kx, fx⟩ := bX.rules
    have zB := hB1.size
    have hpl : (vals pre).length ≤ 300 := by rw [vals_len]; omega
    have hf1 : ((vals pre).filter q).length ≤ 300 := Nat.le_trans (List.length_filter_le _ _) hpl
    have hf2 : ((vals pre).filter fun p => !q p).length ≤ 300 := Nat.le_trans (List.length_filter_le _ _) hpl
    have HC := Lib.hid (fun n => HH.out l n p hx W hB1)
    have hfa : (vals pre ++ [p]).filter q = if q p = true then (vals pre).filter q ++ [p] else (vals pre).filter q := by
      rw [List.filter_append]; cases hq : q p <;> simp [hq]
    have hfb : ((vals pre ++ [p]).filter fun p => !q p) = if q p = true then (vals pre).filter (fun p => !q p) else (vals pre).filter (fun p => !q p) ++ [p] := by
      rw [List.filter_append]; cases hq : q p <;> simp [hq]
    have HFA := Lib.hid hfa
    have HFB := Lib.hid hfb
    clear hfa hfb hpl HH
    generalize (vals pre).filter q = l1 at *
    generalize (vals pre).filter (fun p => !q p) = l2 at *
    obtain ⟨no, ti, sz, el, pr⟩ := p
    simp only [Pk.val] at *
    obtain ⟨b, hb⟩ : ∃ b, b = q ⟨no, ti, sz, el, pr⟩ := ⟨_, rfl⟩
    rw [← hb] at HC HFA HFB
    clear hb
    have h19 : 1 ≤ 9 - 1 - 1 := by omega
    gi_wp2_with fail
    refine ⟨trivial, ?_⟩
    refine (HC.out _).mono ?_
    rintro e w2 ⟨rfl, hb2⟩
    have hT2 := hT1.later hb2
    have hB2 := hB1.trans (hb2.mono zB)
    have bX2 := bX.later hb2
    have bF2 := bF1.later hb2
    have z2 := hb2.size
    obtain ⟨A1, c1, A2, c2, h1, h2, h3, h4, h5⟩ := hT2
    have H5 := Lib.hid h5
    have ⟨kx2, fx2⟩ := bX2.rules
    have ⟨k1, f1⟩ := h1.rules
    have ⟨k2, f2⟩ := h2.rules
    clear h5 kf kx ff fx hT1 hr
    cases b
    · rw [if_neg (by simp)] at HFA HFB
      gi_wp2_with (gi_at_builtin; refine wpListIn_append_sl2 _ rfl (.tmp 17) (.tmp 19) 22 rfl w.heap.size 27 i0 _ 5 32 Try.underlying22 hi0 hz0 hz1 hz2 rfl (by omega) (.slice A2 l2.length c2) l2.length _ rfl (own_alloc h4 _) w2.heap.size (w2.heap.size + 1) _ 1 1 _ rfl (sl_pk (w := w2) (p := ⟨no, ti, sz, el, pr⟩) rfl) (pCells_one _) (l2.length + 1) rfl _ (pCells_append l2 [_]).symm (by unfold maxLen; omega) (by omega) (by simp; omega) ?_; intro A4 c4 w4 hown4 hg4 hbl4; obtain ⟨m1, m2⟩ := Two.second hB2.size (by omega) h1 h2 h3 h4 H5.out hown4 hg4 hbl4; have ⟨k4, f4⟩ := m1.rules; have bF4 := (bF2.alloc (.cells #[.int .i64 no, .int .i64 ti, .int .i64 sz, .bool el, .bool pr] 27)).grown hg4 (not_rowt (by decide) bF2 h4))
      have q1 : KeepsFrom w.heap.size W (w4.setCell ⟨w.heap.size + 1 + 1, 0, none⟩ (.slice A4 (l2.length + 1) c4)) := (((keeps_below hb2).trans (KeepsOthers.alloc _ _)).trans ((keeps_grown (own_alloc h4 (.cells #[.int .i64 no, .int .i64 ti, .int .i64 sz, .bool el, .bool pr] 27)) hg4).trans (KeepsOthers.setCell _ _ _))).from _
      have hrow : ∀ k, Value.ownBlock (.slice A2 l2.length c2) = some k → w.heap.size ≤ k := fun k e => (h4.lt k e).1
      have q2 : Below w.heap.size W (w4.setCell ⟨w.heap.size + 1 + 1, 0, none⟩ (.slice A4 (l2.length + 1) c4)) := (((hb2.mono zB).alloc (by omega) (.cells #[.int .i64 no, .int .i64 ti, .int .i64 sz, .bool el, .bool pr] 27)).grown hg4 (by first | (simp; done) | (simp; omega)) hrow).setCell (p := ⟨w.heap.size + 1 + 1, 0, none⟩) (by first | (simp; done) | (simp; omega)) _
      refine ⟨(((keeps_below hb2).trans (KeepsOthers.alloc _ _)).trans ((keeps_grown (own_alloc h4 (.cells #[.int .i64 no, .int .i64 ti, .int .i64 sz, .bool el, .bool pr] 27)) hg4).trans (KeepsOthers.setCell _ _ _))).from _, q2, ?_, hB1.trans q2⟩
      rw [vals_snoc, HFA.out, HFB.out]
      exact ⟨bF4.far (by first | (simp; done) | (simp; omega)) _, m2⟩
    · rw [if_pos rfl] at HFA HFB
      gi_wp2_with (gi_at_builtin; refine wpListIn_append_sl2 _ rfl (.tmp 13) (.tmp 15) 22 rfl w.heap.size 27 i0 _ 5 32 Try.underlying22 hi0 hz0 hz1 hz2 rfl (by omega) (.slice A1 l1.length c1) l1.length _ rfl (own_alloc h3 _) w2.heap.size (w2.heap.size + 1) _ 1 1 _ rfl (sl_pk (w := w2) (p := ⟨no, ti, sz, el, pr⟩) rfl) (pCells_one _) (l1.length + 1) rfl _ (pCells_append l1 [_]).symm (by unfold maxLen; omega) (by omega) (by simp; omega) ?_; intro A4 c4 w4 hown4 hg4 hbl4; obtain ⟨m1, m2⟩ := Two.first hB2.size (by omega) h1 h2 h3 h4 H5.out hown4 hg4 hbl4; have ⟨k4, f4⟩ := m1.rules; have bF4 := (bF2.alloc (.cells #[.int .i64 no, .int .i64 ti, .int .i64 sz, .bool el, .bool pr] 27)).grown hg4 (not_rowt (by decide) bF2 h3))
      have q1 : KeepsFrom w.heap.size W (w4.setCell ⟨w.heap.size + 1, 0, none⟩ (.slice A4 (l1.length + 1) c4)) := (((keeps_below hb2).trans (KeepsOthers.alloc _ _)).trans ((keeps_grown (own_alloc h3 (.cells #[.int .i64 no, .int .i64 ti, .int .i64 sz, .bool el, .bool pr] 27)) hg4).trans (KeepsOthers.setCell _ _ _))).from _
      have hrow : ∀ k, Value.ownBlock (.slice A1 l1.length c1) = some k → w.heap.size ≤ k := fun k e => (h3.lt k e).1
      have q2 : Below w.heap.size W (w4.setCell ⟨w.heap.size + 1, 0, none⟩ (.slice A4 (l1.length + 1) c4)) := (((hb2.mono zB).alloc (by omega) (.cells #[.int .i64 no, .int .i64 ti, .int .i64 sz, .bool el, .bool pr] 27)).grown hg4 (by first | (simp; done) | (simp; omega)) hrow).setCell (p := ⟨w.heap.size + 1, 0, none⟩) (by first | (simp; done) | (simp; omega)) _
      refine ⟨(((keeps_below hb2).trans (KeepsOthers.alloc _ _)).trans ((keeps_grown (own_alloc h3 (.cells #[.int .i64 no, .int .i64 ti, .int .i64 sz, .bool el, .bool pr] 27)) hg4).trans (KeepsOthers.setCell _ _ _))).from _, q2, ?_, hB1.trans q2⟩
      rw [vals_snoc, HFA.out, HFB.out]
      exact ⟨bF4.far (by first | (simp; done) | (simp; omega)) _, m2⟩
  case done =>
    rintro D ys W hD rfl ⟨⟨_, hT⟩, hB⟩ hK
    rw [vals_all] at *
    obtain ⟨l1, e1⟩ : ∃ l1, l1 = M.filter q := ⟨_, rfl⟩
    obtain ⟨l2, e2⟩ : ∃ l2, l2 = M.filter fun p => !q p := ⟨_, rfl⟩
    rw [← e1, ← e2] at hT
    have E1 := Lib.hid e1
    have E2 := Lib.hid e2
    clear e1 e2
    obtain ⟨A1, c1, A2, c2, h1, h2, h3, h4, h5⟩ := hT
    have ⟨k1, f1⟩ := h1.rules
    have ⟨k2, f2⟩ := h2.rules
    have H5 := Lib.hid h5
    clear h5
    gi_wp2
    gi_region
    gi_wp2
    have hK' := ((KeepsOthers.setCell W ⟨w.heap.size + 1, 0, none⟩ (.slice A1 l1.length c1)).trans (KeepsOthers.setCell _ ⟨w.heap.size + 1 + 1, 0, none⟩ (.slice A2 l2.length c2))).same D _ hK rfl
    have hK2 : (((W.setCell ⟨w.heap.size + 1, 0, none⟩ (.slice A1 l1.length c1)).setCell ⟨w.heap.size + 1 + 1, 0, none⟩ (.slice A2 l2.length c2)).drew).heap[D]? = some (.deferred (some [])) := hK'
    refine ⟨by simp, .inl ⟨_, _, rfl, run_takeDeferred hK2, ?_⟩⟩
    have b1 := (h1.set_ 0 (.slice A1 l1.length c1)).far (p := ⟨w.heap.size + 1 + 1, 0, none⟩) (by simp) (.slice A2 l2.length c2)
    have b2 := (h2.far (p := ⟨w.heap.size + 1, 0, none⟩) (by simp) (.slice A1 l1.length c1)).set_ 0 (.slice A2 l2.length c2)
    have o1 := own_setBlk (own_setBlk h3 h1 (by decide) 0 (.slice A1 l1.length c1)) (h2.far (p := ⟨w.heap.size + 1, 0, none⟩) (by simp) (.slice A1 l1.length c1)) (by decide) 0 (.slice A2 l2.length c2)
    have o2 := own_setBlk (own_setBlk h4 h1 (by decide) 0 (.slice A1 l1.length c1)) (h2.far (p := ⟨w.heap.size + 1, 0, none⟩) (by simp) (.slice A1 l1.length c1)) (by decide) 0 (.slice A2 l2.length c2)
    have b5 : Blk ((((W.setCell ⟨w.heap.size + 1, 0, none⟩ (.slice A1 l1.length c1)).setCell ⟨w.heap.size + 1 + 1, 0, none⟩ (.slice A2 l2.length c2)).drew).putObj D (.deferred none)) (w.heap.size + 1) 22 #[.slice A1 l1.length c1] := Blk.grown (Blk.drew b1) (grownBy_putObj' _ D _) (fun e => by cases e; omega)
    have b6 : Blk ((((W.setCell ⟨w.heap.size + 1, 0, none⟩ (.slice A1 l1.length c1)).setCell ⟨w.heap.size + 1 + 1, 0, none⟩ (.slice A2 l2.length c2)).drew).putObj D (.deferred none)) (w.heap.size + 1 + 1) 22 #[.slice A2 l2.length c2] := Blk.grown (Blk.drew b2) (grownBy_putObj' _ D _) (fun e => by cases e; omega)
    have hc5 := b5.rules.1 0
    have hc6 := b6.rules.1 0
    simp only [List.getElem?_toArray, List.getElem?_cons_zero] at hc5 hc6
    have r5 := own_kept_from (B := D) (row := some D) (W' := (((W.setCell ⟨w.heap.size + 1, 0, none⟩ (.slice A1 l1.length c1)).setCell ⟨w.heap.size + 1 + 1, 0, none⟩ (.slice A2 l2.length c2)).drew).putObj D (.deferred none)) (W := (((W.setCell ⟨w.heap.size + 1, 0, none⟩ (.slice A1 l1.length c1)).setCell ⟨w.heap.size + 1 + 1, 0, none⟩ (.slice A2 l2.length c2)).drew)) o1 (grownBy_putObj' _ D _) (fun r e => by cases e; exact ⟨Nat.le_refl _, _, hK2, rfl⟩)
    have r6 := own_kept_from (B := D) (row := some D) (W' := (((W.setCell ⟨w.heap.size + 1, 0, none⟩ (.slice A1 l1.length c1)).setCell ⟨w.heap.size + 1 + 1, 0, none⟩ (.slice A2 l2.length c2)).drew).putObj D (.deferred none)) (W := (((W.setCell ⟨w.heap.size + 1, 0, none⟩ (.slice A1 l1.length c1)).setCell ⟨w.heap.size + 1 + 1, 0, none⟩ (.slice A2 l2.length c2)).drew)) o2 (grownBy_putObj' _ D _) (fun r e => by cases e; exact ⟨Nat.le_refl _, _, hK2, rfl⟩)
    refine ⟨.tuple #[.slice A1 l1.length c1, .slice A2 l2.length c2], ?_, ?_⟩
    · simp [results, Try.f16, go_sem, hc5, hc6]
    · rw [← E1.out, ← E2.out]
      exact ⟨A1, c1, A2, c2, rfl, r5, r6, (((hB.setCell (p := ⟨w.heap.size + 1, 0, none⟩) (by simp) _).setCell (p := ⟨w.heap.size + 1 + 1, 0, none⟩) (by simp; omega) _).drew).trans (belowK_b (w := w) (Nat.le_refl _) _ D _ _ (by omega) hK2 rfl rfl)⟩
  case stop =>
    rintro D c pre W _ _ h _
    exact h.elim

set_option maxRecDepth 100000 in
set_option maxHeartbeats 8000000 in
theorem parted_came {lo up c : Nat} {A : Option Addr} {k : Nat} {L M : List Pk} {g1 : Nat} {w : World} (hs : Sl w lo up 5 A k c (pCells L)) (hup : up ≤ w.heap.size) (hk : k ≤ 9223372036854775807) (hL : pWf L) (hM : pOk L ∧ M = L ∨ ¬ pOk L ∧ M = []) (q : Pk → Bool)
    (H : ∀ p ∈ M, ∀ W : World, Below w.heap.size w W → Calls Try.prog 18 #[p.val, .pointer (some ⟨g1, 0, none⟩)] W fun e w' => e = .returned (.bool (q p)) ∧ Below W.heap.size W w') :
    Calls Try.prog 16 #[.slice A k c, .func (.func 18) #[] #[.pointer (some ⟨g1, 0, none⟩)]] w (RetTwo w (M.filter q) (M.filter fun p => !q p)) := by
  obtain ⟨i0, hi0, hz0, hz1, hz2⟩ := info_parts info27
  have hMl : M.length ≤ 300 := by rcases hM with ⟨h, rfl⟩ | ⟨_, rfl⟩; exact h.2; simp
  have HM := Lib.hid hM
  have HH := Lib.hid (fun l n (p : Pk) (hp : p ∈ M) (W : World) hW => CallsIn.inRound (F := Fence.wide) l ((callsIn_wide (n := n)).2 (H p hp W hW)))
  refine (callsIn_wide (n := 9)).1 ?_
  refine callsIn_of_wp_marks Try.func16 rfl trivial ?_ rfl
  simp only [Try.ntmps16, List.size_toArray, List.length_cons, List.length_nil, Nat.reduceAdd, Nat.reduceSub, Array.replicate_succ, Array.replicate_zero, List.push_toArray, List.append_toArray, List.nil_append, List.cons_append]
  clear hM H
  gi_wp2_with (refine ⟨trivial, ?_⟩; gi_at_call 15; refine (all_in _ _ _ _ _).mono ?_; rintro e w' ⟨rfl, rfl⟩)
  obtain ⟨W0, hW0⟩ : ∃ W0, (((w.alloc (.cells #[.func (.func 18) #[] #[.pointer (some ⟨g1, 0, none⟩)]] 47)).alloc (.cells #[.slice none 0 0] 22)).alloc (.cells #[.slice none 0 0] 22)).alloc (.cells #[.slice A k c] 22) = W0 := ⟨_, rfl⟩
  have bF : Blk W0 w.heap.size 47 #[.func (.func 18) #[] #[.pointer (some ⟨g1, 0, none⟩)]] := by rw [← hW0]; exact (((Blk.new w 47 _ rfl).alloc _).alloc _).alloc _
  have bS : Blk W0 (w.heap.size + 1) 22 #[.slice none 0 0] := by rw [← hW0]; exact ((Blk.new _ 22 _ (by simp)).alloc _).alloc _
  have bT : Blk W0 (w.heap.size + 1 + 1) 22 #[.slice none 0 0] := by rw [← hW0]; exact (Blk.new _ 22 _ (by simp)).alloc _
  have bL : Blk W0 (w.heap.size + 1 + 1 + 1) 22 #[.slice A k c] := by rw [← hW0]; exact Blk.new _ 22 _ (by simp)
  have hB0 : Below w.heap.size w W0 := by rw [← hW0]; exact ((((Below.refl _ w).alloc (Nat.le_refl _) _).alloc (by simp) _).alloc (by simp; omega) _).alloc (by simp; omega) _
  have hs0 : Sl W0 lo up 5 A k c (pCells L) := hs.below hB0 hup
  have hsz : w.heap.size + 4 ≤ W0.heap.size := by rw [← hW0]; simp
  rw [hW0]
  clear hW0
  refine wpIn_rangeFunc_ownH rfl (by omega) (gf := 20) (lb := #[.pointer (some ⟨w.heap.size + 1 + 1 + 1, 0, none⟩)]) rfl trivial (enters_of Try.func20 (by kernel_rfl) rfl)
    (all_stops (9 - 1) (by omega) (w.heap.size + 1 + 1 + 1) w.heap.size W0 hs0 hk hup (by omega) hL (bL.rules.1 0) (by omega) HM.out) belowK_t (belowK_b (by omega)) (Below.refl _ _) (fun _ => rfl)
    (fun pre W => (Blk W w.heap.size 47 #[.func (.func 18) #[] #[.pointer (some ⟨g1, 0, none⟩)]] ∧ Two W w.heap.size (w.heap.size + 1) (w.heap.size + 1 + 1) ((vals pre).filter q) ((vals pre).filter fun p => !q p)) ∧ Below w.heap.size w W)
    (fun _ _ _ => False)
    (OwnFrom.and (OwnFrom.and (blk_from _ _ _ _) (two_from _ _ _ _ _ _)) (ownFrom_below (Nat.le_refl _) (by omega)))
    (fun _ _ _ _ _ hs _ _ => hs)
    ⟨⟨bF, none, 0, none, 0, bS, bT, World.ownsRow_nil _ _ _ _, World.ownsRow_nil _ _ _ _, fun g h => by cases h⟩, hB0⟩
    (fun x' a' W => ∃ Bx, w.heap.size + 1 + 1 < Bx ∧ Blk W Bx 27 #[.int .i64 x'.1.no, .int .i64 x'.1.ti, .int .i64 x'.1.sz, .bool x'.1.el, .bool x'.1.pr] ∧ a' = { tmps := #[.slice A k c, .func (.func 18) #[] #[.pointer (some ⟨g1, 0, none⟩)], undef, .pointer (some ⟨w.heap.size, 0, none⟩), .pointer (some ⟨w.heap.size + 1, 0, none⟩), .pointer (some ⟨w.heap.size + 1 + 1, 0, none⟩), .pointer (some ⟨Bx, 0, none⟩), .slice A k c, .func (.func 20) #[] #[.pointer (some ⟨w.heap.size + 1 + 1 + 1, 0, none⟩)], x'.1.val, undef, undef, undef, undef, undef, undef, undef, undef, undef, undef, undef, undef, undef], defers := [] })
    (fun x a' _ X Y row hs hg hr => by obtain ⟨Bx, h1, h2, h3⟩ := hs; exact ⟨Bx, h1, blk_from _ Bx 27 (fun (_ : Unit) => _) () X Y row h2 hg hr, h3⟩)
    ?assign ?body ?done ?stop
  case assign =>
    rintro l pre ⟨⟨no, ti, sz, el, pr⟩, hx⟩ W K ⟨⟨bF1, hT1⟩, hB1⟩ hK
    simp only [Pk.val] at *
    gi_wp2
    exact hK _ _ ((KeepsOthers.alloc _ _).from _) ((Below.refl _ W).alloc hB1.size _) ⟨⟨bF1.alloc _, hT1.alloc _⟩, hB1.alloc hB1.size _⟩ ⟨W.heap.size, by obtain ⟨_, _, _, _, _, h, _⟩ := hT1; exact h.lt, Blk.new W 27 _ rfl, rfl⟩
  case body =>
    rintro l pre ⟨p, hx⟩ a' W hl ⟨r, hr⟩ ⟨⟨bF1, hT1⟩, hB1⟩ ⟨Bx, hBx, bX, rfl⟩ hlt
    have ⟨kf, ff⟩ := bF1.rules
    have ⟨kx, fx⟩ := bX.rules
    have zB := hB1.size
    have hpl : (vals pre).length ≤ 300 := by rw [vals_len]; omega
    have hf1 : ((vals pre).filter q).length ≤ 300 := Nat.le_trans (List.length_filter_le _ _) hpl
    have hf2 : ((vals pre).filter fun p => !q p).length ≤ 300 := Nat.le_trans (List.length_filter_le _ _) hpl
    have HC := Lib.hid (fun n => HH.out l n p hx W hB1)
    have hfa : (vals pre ++ [p]).filter q = if q p = true then (vals pre).filter q ++ [p] else (vals pre).filter q := by
      rw [List.filter_append]; cases hq : q p <;> simp [hq]
    have hfb : ((vals pre ++ [p]).filter fun p => !q p) = if q p = true then (vals pre).filter (fun p => !q p) else (vals pre).filter (fun p => !q p) ++ [p] := by
      rw [List.filter_append]; cases hq : q p <;> simp [hq]
    have HFA := Lib.hid hfa
    have HFB := Lib.hid hfb
    clear hfa hfb hpl HH
    generalize (vals pre).filter q = l1 at *
    generalize (vals pre).filter (fun p => !q p) = l2 at *
    obtain ⟨no, ti, sz, el, pr⟩ := p
    simp only [Pk.val] at *
    obtain ⟨b, hb⟩ : ∃ b, b = q ⟨no, ti, sz, el, pr⟩ := ⟨_, rfl⟩
    rw [← hb] at HC HFA HFB
    clear hb
    have h19 : 1 ≤ 9 - 1 - 1 := by omega
    gi_wp2_with fail
    refine ⟨trivial, ?_⟩
    refine (HC.out _).mono ?_
    rintro e w2 ⟨rfl, hb2⟩
    have hT2 := hT1.later hb2
    have hB2 := hB1.trans (hb2.mono zB)
    have bX2 := bX.later hb2
    have bF2 := bF1.later hb2
    have z2 := hb2.size
    obtain ⟨A1, c1, A2, c2, h1, h2, h3, h4, h5⟩ := hT2
    have H5 := Lib.hid h5
    have ⟨kx2, fx2⟩ := bX2.rules
    have ⟨k1, f1⟩ := h1.rules
    have ⟨k2, f2⟩ := h2.rules
    clear h5 kf kx ff fx hT1 hr
    cases b
    · rw [if_neg (by simp)] at HFA HFB
      gi_wp2_with (gi_at_builtin; refine wpListIn_append_sl2 _ rfl (.tmp 17) (.tmp 19) 22 rfl w.heap.size 27 i0 _ 5 32 Try.underlying22 hi0 hz0 hz1 hz2 rfl (by omega) (.slice A2 l2.length c2) l2.length _ rfl (own_alloc h4 _) w2.heap.size (w2.heap.size + 1) _ 1 1 _ rfl (sl_pk (w := w2) (p := ⟨no, ti, sz, el, pr⟩) rfl) (pCells_one _) (l2.length + 1) rfl _ (pCells_append l2 [_]).symm (by unfold maxLen; omega) (by omega) (by simp; omega) ?_; intro A4 c4 w4 hown4 hg4 hbl4; obtain ⟨m1, m2⟩ := Two.second hB2.size (by omega) h1 h2 h3 h4 H5.out hown4 hg4 hbl4; have ⟨k4, f4⟩ := m1.rules; have bF4 := (bF2.alloc (.cells #[.int .i64 no, .int .i64 ti, .int .i64 sz, .bool el, .bool pr] 27)).grown hg4 (not_rowt (by decide) bF2 h4))
      have q1 : KeepsFrom w.heap.size W (w4.setCell ⟨w.heap.size + 1 + 1, 0, none⟩ (.slice A4 (l2.length + 1) c4)) := (((keeps_below hb2).trans (KeepsOthers.alloc _ _)).trans ((keeps_grown (own_alloc h4 (.cells #[.int .i64 no, .int .i64 ti, .int .i64 sz, .bool el, .bool pr] 27)) hg4).trans (KeepsOthers.setCell _ _ _))).from _
      have hrow : ∀ k, Value.ownBlock (.slice A2 l2.length c2) = some k → w.heap.size ≤ k := fun k e => (h4.lt k e).1
      have q2 : Below w.heap.size W (w4.setCell ⟨w.heap.size + 1 + 1, 0, none⟩ (.slice A4 (l2.length + 1) c4)) := (((hb2.mono zB).alloc (by omega) (.cells #[.int .i64 no, .int .i64 ti, .int .i64 sz, .bool el, .bool pr] 27)).grown hg4 (by first | (simp; done) | (simp; omega)) hrow).setCell (p := ⟨w.heap.size + 1 + 1, 0, none⟩) (by first | (simp; done) | (simp; omega)) _
      refine ⟨(((keeps_below hb2).trans (KeepsOthers.alloc _ _)).trans ((keeps_grown (own_alloc h4 (.cells #[.int .i64 no, .int .i64 ti, .int .i64 sz, .bool el, .bool pr] 27)) hg4).trans (KeepsOthers.setCell _ _ _))).from _, q2, ?_, hB1.trans q2⟩
      rw [vals_snoc, HFA.out, HFB.out]
      exact ⟨bF4.far (by first | (simp; done) | (simp; omega)) _, m2⟩
    · rw [if_pos rfl] at HFA HFB
      gi_wp2_with (gi_at_builtin; refine wpListIn_append_sl2 _ rfl (.tmp 13) (.tmp 15) 22 rfl w.heap.size 27 i0 _ 5 32 Try.underlying22 hi0 hz0 hz1 hz2 rfl (by omega) (.slice A1 l1.length c1) l1.length _ rfl (own_alloc h3 _) w2.heap.size (w2.heap.size + 1) _ 1 1 _ rfl (sl_pk (w := w2) (p := ⟨no, ti, sz, el, pr⟩) rfl) (pCells_one _) (l1.length + 1) rfl _ (pCells_append l1 [_]).symm (by unfold maxLen; omega) (by omega) (by simp; omega) ?_; intro A4 c4 w4 hown4 hg4 hbl4; obtain ⟨m1, m2⟩ := Two.first hB2.size (by omega) h1 h2 h3 h4 H5.out hown4 hg4 hbl4; have ⟨k4, f4⟩ := m1.rules; have bF4 := (bF2.alloc (.cells #[.int .i64 no, .int .i64 ti, .int .i64 sz, .bool el, .bool pr] 27)).grown hg4 (not_rowt (by decide) bF2 h3))
      have q1 : KeepsFrom w.heap.size W (w4.setCell ⟨w.heap.size + 1, 0, none⟩ (.slice A4 (l1.length + 1) c4)) := (((keeps_below hb2).trans (KeepsOthers.alloc _ _)).trans ((keeps_grown (own_alloc h3 (.cells #[.int .i64 no, .int .i64 ti, .int .i64 sz, .bool el, .bool pr] 27)) hg4).trans (KeepsOthers.setCell _ _ _))).from _
      have hrow : ∀ k, Value.ownBlock (.slice A1 l1.length c1) = some k → w.heap.size ≤ k := fun k e => (h3.lt k e).1
      have q2 : Below w.heap.size W (w4.setCell ⟨w.heap.size + 1, 0, none⟩ (.slice A4 (l1.length + 1) c4)) := (((hb2.mono zB).alloc (by omega) (.cells #[.int .i64 no, .int .i64 ti, .int .i64 sz, .bool el, .bool pr] 27)).grown hg4 (by first | (simp; done) | (simp; omega)) hrow).setCell (p := ⟨w.heap.size + 1, 0, none⟩) (by first | (simp; done) | (simp; omega)) _
      refine ⟨(((keeps_below hb2).trans (KeepsOthers.alloc _ _)).trans ((keeps_grown (own_alloc h3 (.cells #[.int .i64 no, .int .i64 ti, .int .i64 sz, .bool el, .bool pr] 27)) hg4).trans (KeepsOthers.setCell _ _ _))).from _, q2, ?_, hB1.trans q2⟩
      rw [vals_snoc, HFA.out, HFB.out]
      exact ⟨bF4.far (by first | (simp; done) | (simp; omega)) _, m2⟩
  case done =>
    rintro D ys W hD rfl ⟨⟨_, hT⟩, hB⟩ hK
    rw [vals_all] at *
    obtain ⟨l1, e1⟩ : ∃ l1, l1 = M.filter q := ⟨_, rfl⟩
    obtain ⟨l2, e2⟩ : ∃ l2, l2 = M.filter fun p => !q p := ⟨_, rfl⟩
    rw [← e1, ← e2] at hT
    have E1 := Lib.hid e1
    have E2 := Lib.hid e2
    clear e1 e2
    obtain ⟨A1, c1, A2, c2, h1, h2, h3, h4, h5⟩ := hT
    have ⟨k1, f1⟩ := h1.rules
    have ⟨k2, f2⟩ := h2.rules
    have H5 := Lib.hid h5
    clear h5
    gi_wp2
    gi_region
    gi_wp2
    have hK' := ((KeepsOthers.setCell W ⟨w.heap.size + 1, 0, none⟩ (.slice A1 l1.length c1)).trans (KeepsOthers.setCell _ ⟨w.heap.size + 1 + 1, 0, none⟩ (.slice A2 l2.length c2))).same D _ hK rfl
    have hK2 : (((W.setCell ⟨w.heap.size + 1, 0, none⟩ (.slice A1 l1.length c1)).setCell ⟨w.heap.size + 1 + 1, 0, none⟩ (.slice A2 l2.length c2)).drew).heap[D]? = some (.deferred (some [])) := hK'
    refine ⟨by simp, .inl ⟨_, _, rfl, run_takeDeferred hK2, ?_⟩⟩
    have b1 := (h1.set_ 0 (.slice A1 l1.length c1)).far (p := ⟨w.heap.size + 1 + 1, 0, none⟩) (by simp) (.slice A2 l2.length c2)
    have b2 := (h2.far (p := ⟨w.heap.size + 1, 0, none⟩) (by simp) (.slice A1 l1.length c1)).set_ 0 (.slice A2 l2.length c2)
    have o1 := own_setBlk (own_setBlk h3 h1 (by decide) 0 (.slice A1 l1.length c1)) (h2.far (p := ⟨w.heap.size + 1, 0, none⟩) (by simp) (.slice A1 l1.length c1)) (by decide) 0 (.slice A2 l2.length c2)
    have o2 := own_setBlk (own_setBlk h4 h1 (by decide) 0 (.slice A1 l1.length c1)) (h2.far (p := ⟨w.heap.size + 1, 0, none⟩) (by simp) (.slice A1 l1.length c1)) (by decide) 0 (.slice A2 l2.length c2)
    have b5 : Blk ((((W.setCell ⟨w.heap.size + 1, 0, none⟩ (.slice A1 l1.length c1)).setCell ⟨w.heap.size + 1 + 1, 0, none⟩ (.slice A2 l2.length c2)).drew).putObj D (.deferred none)) (w.heap.size + 1) 22 #[.slice A1 l1.length c1] := Blk.grown (Blk.drew b1) (grownBy_putObj' _ D _) (fun e => by cases e; omega)
    have b6 : Blk ((((W.setCell ⟨w.heap.size + 1, 0, none⟩ (.slice A1 l1.length c1)).setCell ⟨w.heap.size + 1 + 1, 0, none⟩ (.slice A2 l2.length c2)).drew).putObj D (.deferred none)) (w.heap.size + 1 + 1) 22 #[.slice A2 l2.length c2] := Blk.grown (Blk.drew b2) (grownBy_putObj' _ D _) (fun e => by cases e; omega)
    have hc5 := b5.rules.1 0
    have hc6 := b6.rules.1 0
    simp only [List.getElem?_toArray, List.getElem?_cons_zero] at hc5 hc6
    have r5 := own_kept_from (B := D) (row := some D) (W' := (((W.setCell ⟨w.heap.size + 1, 0, none⟩ (.slice A1 l1.length c1)).setCell ⟨w.heap.size + 1 + 1, 0, none⟩ (.slice A2 l2.length c2)).drew).putObj D (.deferred none)) (W := (((W.setCell ⟨w.heap.size + 1, 0, none⟩ (.slice A1 l1.length c1)).setCell ⟨w.heap.size + 1 + 1, 0, none⟩ (.slice A2 l2.length c2)).drew)) o1 (grownBy_putObj' _ D _) (fun r e => by cases e; exact ⟨Nat.le_refl _, _, hK2, rfl⟩)
    have r6 := own_kept_from (B := D) (row := some D) (W' := (((W.setCell ⟨w.heap.size + 1, 0, none⟩ (.slice A1 l1.length c1)).setCell ⟨w.heap.size + 1 + 1, 0, none⟩ (.slice A2 l2.length c2)).drew).putObj D (.deferred none)) (W := (((W.setCell ⟨w.heap.size + 1, 0, none⟩ (.slice A1 l1.length c1)).setCell ⟨w.heap.size + 1 + 1, 0, none⟩ (.slice A2 l2.length c2)).drew)) o2 (grownBy_putObj' _ D _) (fun r e => by cases e; exact ⟨Nat.le_refl _, _, hK2, rfl⟩)
    refine ⟨.tuple #[.slice A1 l1.length c1, .slice A2 l2.length c2], ?_, ?_⟩
    · simp [results, Try.f16, go_sem, hc5, hc6]
    · rw [← E1.out, ← E2.out]
      exact ⟨A1, c1, A2, c2, rfl, r5, r6, (((hB.setCell (p := ⟨w.heap.size + 1, 0, none⟩) (by simp) _).setCell (p := ⟨w.heap.size + 1 + 1, 0, none⟩) (by simp; omega) _).drew).trans (belowK_b (w := w) (Nat.le_refl _) _ D _ _ (by omega) hK2 rfl rfl)⟩
  case stop =>
    rintro D c pre W _ _ h _
    exact h.elim

end Go.Proofs.Ytgebebdapfnmpaa
