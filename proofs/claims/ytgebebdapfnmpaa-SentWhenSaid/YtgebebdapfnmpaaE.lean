/- The walk of sent.When. -/
import Derived.Test.YtgebebdapfnmpaaD
namespace Go.Proofs.Ytgebebdapfnmpaa
open Go.RowKit
set_option linter.unusedVariables false
set_option linter.unusedSimpArgs false
attribute [local go_sem] Oper.semAt_some

/-- When the next one is lost by time alone. -/
def whStep (x t : Int) (a : Int × Bool) (p : Pk) : Int × Bool := if p.no < x ∧ (a.2 = false ∨ p.ti + t < a.1) then (p.ti + t, true) else a
def wh (x t : Int) (l : List Pk) : Int × Bool := l.foldl (whStep x t) (0, false)
theorem wh_snoc (x t : Int) (l : List Pk) (p : Pk) : wh x t (l ++ [p]) = whStep x t (wh x t l) p := by simp [wh]

set_option maxRecDepth 100000 in
set_option maxHeartbeats 8000000 in
theorem when_any {lo up c : Nat} {A : Option Addr} {k : Nat} {L M : List Pk} {x y : Int} {w : World} (hs : Sl w lo up 5 A k c (pCells L)) (hup : up ≤ w.heap.size) (hk : k ≤ 9223372036854775807) (hL : pWf L) (hM : pOk L ∧ M = L ∨ ¬ pOk L ∧ M = []) :
    Calls Try.prog 8 #[.slice A k c, .int .i64 x, .int .i64 y] w fun e w' => e = .returned (.tuple #[.int .i64 (wh x (tm y) M).1, .bool (wh x (tm y) M).2]) ∧ Below w.heap.size w w' := by
  have hMl : M.length ≤ 300 := by rcases hM with ⟨h, rfl⟩ | ⟨_, rfl⟩; exact h.2; simp
  have hMb : ∀ p ∈ M, 0 ≤ p.ti ∧ p.ti ≤ 1099511627776 := by
    rcases hM with ⟨h, rfl⟩ | ⟨_, rfl⟩
    · exact fun p hp => (good_bnd h.1 p hp).2.1
    · intro p hp; cases hp
  have HM := Lib.hid hM
  have HMB := Lib.hid hMb
  have hty := tm_bound y
  have HT := Lib.hid (fun l n w => CallsIn.inRound (F := Fence.wide) l ((callsIn_wide (n := n)).2 (time_any y w)))
  have mixed : Try.prog.follows .mixedOrders = true := by kernel_rfl
  refine (callsIn_wide (n := 9)).1 ?_
  refine callsIn_of_wp_marks Try.func8 rfl trivial ?_ rfl
  simp only [Try.ntmps8, List.size_toArray, List.length_cons, List.length_nil, Nat.reduceAdd, Nat.reduceSub, Array.replicate_succ, Array.replicate_zero, List.push_toArray, List.append_toArray, List.nil_append, List.cons_append]
  clear hM hMb
  generalize tm y = t at *
  gi_wp2_with (refine ⟨trivial, ?_⟩; gi_at_call 15; refine (all_in _ _ _ _ _).mono ?_; rintro e w' ⟨rfl, rfl⟩)
  obtain ⟨W0, hW0⟩ : ∃ W0, ((((w.alloc (.cells #[.int .i64 x] 3)).alloc (.cells #[.int .i64 y] 3)).alloc (.cells #[.int .i64 0] 3)).alloc (.cells #[.bool false] 4)).alloc (.cells #[.slice A k c] 22) = W0 := ⟨_, rfl⟩
  have bP : Blk W0 w.heap.size 3 #[.int .i64 x] := by rw [← hW0]; exact ((((Blk.new w 3 _ rfl).alloc _).alloc _).alloc _).alloc _
  have bQ : Blk W0 (w.heap.size + 1) 3 #[.int .i64 y] := by rw [← hW0]; exact (((Blk.new _ 3 _ (by simp)).alloc _).alloc _).alloc _
  have bS : Blk W0 (w.heap.size + 1 + 1) 3 #[.int .i64 0] := by rw [← hW0]; exact ((Blk.new _ 3 _ (by simp)).alloc _).alloc _
  have bT : Blk W0 (w.heap.size + 1 + 1 + 1) 4 #[.bool false] := by rw [← hW0]; exact (Blk.new _ 4 _ (by simp)).alloc _
  have bL : Blk W0 (w.heap.size + 1 + 1 + 1 + 1) 22 #[.slice A k c] := by rw [← hW0]; exact Blk.new _ 22 _ (by simp)
  have hB0 : Below w.heap.size w W0 := by rw [← hW0]; exact (((((Below.refl _ w).alloc (Nat.le_refl _) _).alloc (by simp) _).alloc (by simp; omega) _).alloc (by simp; omega) _).alloc (by simp; omega) _
  have hs0 : Sl W0 lo up 5 A k c (pCells L) := hs.below hB0 hup
  have hsz : w.heap.size + 5 ≤ W0.heap.size := by rw [← hW0]; simp
  rw [hW0]
  clear hW0
  refine wpIn_rangeFunc_ownH rfl (by omega) (gf := 20) (lb := #[.pointer (some ⟨w.heap.size + 1 + 1 + 1 + 1, 0, none⟩)]) rfl trivial (enters_of Try.func20 (by kernel_rfl) rfl)
    (all_stops (9 - 1) (by omega) (w.heap.size + 1 + 1 + 1 + 1) w.heap.size W0 hs0 hk hup (by omega) hL (bL.rules.1 0) (by omega) HM.out) belowK_t (belowK_b (by omega)) (Below.refl _ _) (fun _ => rfl)
    (fun pre W => ((Blk W w.heap.size 3 #[.int .i64 x] ∧ Blk W (w.heap.size + 1) 3 #[.int .i64 y]) ∧ (Blk W (w.heap.size + 1 + 1) 3 #[.int .i64 (wh x t (vals pre)).1] ∧ Blk W (w.heap.size + 1 + 1 + 1) 4 #[.bool (wh x t (vals pre)).2])) ∧ Below w.heap.size w W)
    (fun _ _ _ => False)
    (OwnFrom.and (OwnFrom.and (OwnFrom.and (blk_from _ _ _ _) (blk_from _ _ _ _)) (OwnFrom.and (blk_from _ _ _ _) (blk_from _ _ _ _))) (ownFrom_below (Nat.le_refl _) (by omega)))
    (fun _ _ _ _ _ hs _ _ => hs)
    ⟨⟨⟨bP, bQ⟩, ⟨bS, bT⟩⟩, hB0⟩
    (fun x' a' W => ∃ Bx, w.heap.size + 1 + 1 + 1 < Bx ∧ Blk W Bx 27 #[.int .i64 x'.1.no, .int .i64 x'.1.ti, .int .i64 x'.1.sz, .bool x'.1.el, .bool x'.1.pr] ∧ a' = { tmps := #[.slice A k c, .int .i64 x, .int .i64 y, undef, .pointer (some ⟨w.heap.size, 0, none⟩), .pointer (some ⟨w.heap.size + 1, 0, none⟩), .pointer (some ⟨w.heap.size + 1 + 1, 0, none⟩), .pointer (some ⟨w.heap.size + 1 + 1 + 1, 0, none⟩), .pointer (some ⟨Bx, 0, none⟩), undef, .slice A k c, .func (.func 20) #[] #[.pointer (some ⟨w.heap.size + 1 + 1 + 1 + 1, 0, none⟩)], x'.1.val, undef, undef, undef, undef, undef, undef, undef, undef, undef, undef, undef, undef, undef, undef, undef, undef, undef, undef, undef, undef, undef], defers := [] })
    (fun x a' _ X Y row hs hg hr => by obtain ⟨Bx, h1, h2, h3⟩ := hs; exact ⟨Bx, h1, blk_from _ Bx 27 (fun (_ : Unit) => _) () X Y row h2 hg hr, h3⟩)
    ?assign ?body ?done ?stop
  case assign =>
    rintro l pre ⟨⟨no, ti, sz, el, pr⟩, hx⟩ W K ⟨⟨⟨bP1, bQ1⟩, ⟨bS1, bT1⟩⟩, hB1⟩ hK
    simp only [Pk.val] at *
    gi_wp2
    exact hK _ _ ((KeepsOthers.alloc _ _).from _) ((Below.refl _ W).alloc hB1.size _) ⟨⟨⟨bP1.alloc _, bQ1.alloc _⟩, ⟨bS1.alloc _, bT1.alloc _⟩⟩, hB1.alloc hB1.size _⟩ ⟨W.heap.size, bT1.lt, Blk.new W 27 _ rfl, rfl⟩
  case body =>
    rintro l pre ⟨⟨no, ti, sz, el, pr⟩, hx⟩ a' W hl ⟨r, hr⟩ ⟨⟨⟨bP1, bQ1⟩, ⟨bS1, bT1⟩⟩, hB1⟩ ⟨Bx, hBx, bX, rfl⟩ hlt
    have ⟨kx, fx⟩ := bX.rules
    have ⟨kp, fp⟩ := bP1.rules
    have ⟨kq, fq⟩ := bQ1.rules
    have ⟨ks, fs⟩ := bS1.rules
    have ⟨kt, ft⟩ := bT1.rules
    have hbd := HMB.out _ hx
    have hsn := wh_snoc x t (vals pre) ⟨no, ti, sz, el, pr⟩
    simp only [Pk.val] at *
    have HSN := Lib.hid hsn
    clear hsn
    obtain ⟨S, hS⟩ : ∃ S, S = wh x t (vals pre) := ⟨_, rfl⟩
    rw [← hS] at bS1 bT1 ks kt HSN
    have HS := Lib.hid hS
    clear hS
    obtain ⟨S, T⟩ := S
    simp only at bS1 bT1 ks kt
    have h19 : 1 ≤ 9 - 1 - 1 := by omega
    by_cases c1 : no < x
    · by_cases c2 : T = false
      · subst c2
        have hh : whStep x t (S, false) ⟨no, ti, sz, el, pr⟩ = (ti + t, true) := by unfold whStep; rw [if_pos ⟨c1, .inl rfl⟩]
        rw [hh] at HSN
        clear hh
        gi_wp2
        gi_region_with_o (refine ⟨trivial, ?_⟩; gi_at_call 14; refine (HT.out l _ _).mono ?_; rintro e w' ⟨rfl, rfl⟩)
        all_goals
          gi_wp2
          refine ⟨((KeepsOthers.drew W).trans ((KeepsOthers.setCell _ _ _).trans (KeepsOthers.setCell _ _ _))).from _, (((Below.refl _ W).drew).setCell (p := ⟨w.heap.size + 1 + 1, 0, none⟩) (by simp; omega) _).setCell (p := ⟨w.heap.size + 1 + 1 + 1, 0, none⟩) (by simp; omega) _, ?_, ((hB1.drew).setCell (p := ⟨w.heap.size + 1 + 1, 0, none⟩) (by simp; omega) _).setCell (p := ⟨w.heap.size + 1 + 1 + 1, 0, none⟩) (by simp; omega) _⟩
          rw [vals_snoc, HSN.out]
          exact ⟨⟨(bP1.drew.far (by first | (simp; done) | (simp; omega)) _).far (by first | (simp; done) | (simp; omega)) _, (bQ1.drew.far (by first | (simp; done) | (simp; omega)) _).far (by first | (simp; done) | (simp; omega)) _⟩, ⟨(bS1.drew.set_ 0 _).far (by first | (simp; done) | (simp; omega)) _, (bT1.drew.far (by first | (simp; done) | (simp; omega)) _).set_ 0 _⟩⟩
      · obtain rfl : T = true := by simpa using c2
        by_cases c3 : ti + t < S
        · have hh : whStep x t (S, true) ⟨no, ti, sz, el, pr⟩ = (ti + t, true) := by unfold whStep; rw [if_pos ⟨c1, .inr c3⟩]
          rw [hh] at HSN
          clear hh
          gi_wp2
          gi_region_with_o (refine ⟨trivial, ?_⟩; gi_at_call 14; refine (HT.out l _ _).mono ?_; rintro e w' ⟨rfl, rfl⟩)
          all_goals
            gi_wp2
            refine ⟨((KeepsOthers.drew W).trans ((KeepsOthers.setCell _ _ _).trans (KeepsOthers.setCell _ _ _))).from _, (((Below.refl _ W).drew).setCell (p := ⟨w.heap.size + 1 + 1, 0, none⟩) (by simp; omega) _).setCell (p := ⟨w.heap.size + 1 + 1 + 1, 0, none⟩) (by simp; omega) _, ?_, ((hB1.drew).setCell (p := ⟨w.heap.size + 1 + 1, 0, none⟩) (by simp; omega) _).setCell (p := ⟨w.heap.size + 1 + 1 + 1, 0, none⟩) (by simp; omega) _⟩
            rw [vals_snoc, HSN.out]
            exact ⟨⟨(bP1.drew.far (by first | (simp; done) | (simp; omega)) _).far (by first | (simp; done) | (simp; omega)) _, (bQ1.drew.far (by first | (simp; done) | (simp; omega)) _).far (by first | (simp; done) | (simp; omega)) _⟩, ⟨(bS1.drew.set_ 0 _).far (by first | (simp; done) | (simp; omega)) _, (bT1.drew.far (by first | (simp; done) | (simp; omega)) _).set_ 0 _⟩⟩
        · have hh : whStep x t (S, true) ⟨no, ti, sz, el, pr⟩ = (S, true) := by unfold whStep; rw [if_neg (fun h => h.2.elim (fun h => by cases h) c3)]
          rw [hh] at HSN
          clear hh
          gi_wp2
          gi_region_with_o (refine ⟨trivial, ?_⟩; gi_at_call 14; refine (HT.out l _ _).mono ?_; rintro e w' ⟨rfl, rfl⟩)
          all_goals
            gi_wp2
            refine ⟨(KeepsOthers.drew _).from _, (Below.refl _ W).drew, ?_, hB1.drew⟩
            rw [vals_snoc, HSN.out]
            exact ⟨⟨bP1.drew, bQ1.drew⟩, ⟨bS1.drew, bT1.drew⟩⟩
    · have hh : whStep x t (S, T) ⟨no, ti, sz, el, pr⟩ = (S, T) := by unfold whStep; rw [if_neg (fun h => c1 h.1)]
      rw [hh] at HSN
      clear hh
      gi_wp2
      gi_region_with_o (refine ⟨trivial, ?_⟩; gi_at_call 14; refine (HT.out l _ _).mono ?_; rintro e w' ⟨rfl, rfl⟩)
      all_goals
        gi_wp2
        refine ⟨(KeepsOthers.drew _).from _, (Below.refl _ W).drew, ?_, hB1.drew⟩
        rw [vals_snoc, HSN.out]
        exact ⟨⟨bP1.drew, bQ1.drew⟩, ⟨bS1.drew, bT1.drew⟩⟩
  case done =>
    rintro D ys W hD rfl ⟨⟨_, ⟨bS1, bT1⟩⟩, hB⟩ hK
    have ⟨ks, fs⟩ := bS1.rules
    have ⟨kt, ft⟩ := bT1.rules
    rw [vals_all] at *
    obtain ⟨S, hS⟩ : ∃ S, S = wh x t M := ⟨_, rfl⟩
    rw [← hS] at bS1 bT1 ks kt
    have HS := Lib.hid hS
    clear hS
    obtain ⟨S, T⟩ := S
    simp only at bS1 bT1 ks kt
    gi_wp2
    gi_region
    gi_wp2
    have hK' := ((KeepsOthers.setCell W ⟨w.heap.size + 1 + 1, 0, none⟩ (.int .i64 S)).trans (KeepsOthers.setCell _ ⟨w.heap.size + 1 + 1 + 1, 0, none⟩ (.bool T))).same D _ hK rfl
    have hK2 : (((W.setCell ⟨w.heap.size + 1 + 1, 0, none⟩ (.int .i64 S)).setCell ⟨w.heap.size + 1 + 1 + 1, 0, none⟩ (.bool T)).drew).heap[D]? = some (.deferred (some [])) := hK'
    refine ⟨by simp, .inl ⟨_, _, rfl, run_takeDeferred hK2, ?_⟩⟩
    have b5 : Blk ((((W.setCell ⟨w.heap.size + 1 + 1, 0, none⟩ (.int .i64 S)).setCell ⟨w.heap.size + 1 + 1 + 1, 0, none⟩ (.bool T)).drew).putObj D (.deferred none)) (w.heap.size + 1 + 1) 3 #[.int .i64 S] := Blk.grown (Blk.drew ((bS1.set_ 0 _).far (by simp) _)) (grownBy_putObj' _ D _) (fun e => by cases e; omega)
    have b6 : Blk ((((W.setCell ⟨w.heap.size + 1 + 1, 0, none⟩ (.int .i64 S)).setCell ⟨w.heap.size + 1 + 1 + 1, 0, none⟩ (.bool T)).drew).putObj D (.deferred none)) (w.heap.size + 1 + 1 + 1) 4 #[.bool T] := Blk.grown (Blk.drew ((bT1.far (by simp) _).set_ 0 _)) (grownBy_putObj' _ D _) (fun e => by cases e; omega)
    have hc5 := b5.rules.1 0
    have hc6 := b6.rules.1 0
    simp only [List.getElem?_toArray, List.getElem?_cons_zero] at hc5 hc6
    refine ⟨.tuple #[.int .i64 S, .bool T], ?_, by rw [← HS.out], (((hB.setCell (p := ⟨w.heap.size + 1 + 1, 0, none⟩) (by simp; omega) _).setCell (p := ⟨w.heap.size + 1 + 1 + 1, 0, none⟩) (by simp; omega) _).drew).trans (belowK_b (w := w) (Nat.le_refl _) _ D _ _ (by omega) hK2 rfl rfl)⟩
    simp [results, Try.f8, go_sem, hc5, hc6]
  case stop =>
    rintro D c pre W _ _ h _
    exact h.elim
end Go.Proofs.Ytgebebdapfnmpaa
