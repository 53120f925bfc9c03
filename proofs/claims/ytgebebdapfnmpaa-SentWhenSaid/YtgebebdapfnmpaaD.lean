/- The walks of sent.Last and sent.When. -/
import Derived.Test.YtgebebdapfnmpaaC
namespace Go.Proofs.Ytgebebdapfnmpaa
open Go.RowKit
set_option linter.unusedVariables false
set_option linter.unusedSimpArgs false
attribute [local go_sem] Oper.semAt_some

/-- When the last one went that asks for an answer. -/
def laStep (a : Int × Bool) (p : Pk) : Int × Bool := if p.el then (max a.1 p.ti, true) else a
def la (l : List Pk) : Int × Bool := l.foldl laStep (0, false)
theorem la_snoc (l : List Pk) (p : Pk) : la (l ++ [p]) = laStep (la l) p := by simp [la]

set_option maxRecDepth 100000 in
set_option maxHeartbeats 8000000 in
theorem last_any {lo up c : Nat} {A : Option Addr} {k : Nat} {L M : List Pk} {w : World} (hs : Sl w lo up 5 A k c (pCells L)) (hup : up ≤ w.heap.size) (hk : k ≤ 9223372036854775807) (hL : pWf L) (hM : pOk L ∧ M = L ∨ ¬ pOk L ∧ M = []) :
    Calls Try.prog 12 #[.slice A k c] w fun e w' => e = .returned (.tuple #[.int .i64 (la M).1, .bool (la M).2]) ∧ Below w.heap.size w w' := by
  have hMl : M.length ≤ 300 := by rcases hM with ⟨h, rfl⟩ | ⟨_, rfl⟩; exact h.2; simp
  have HM := Lib.hid hM
  refine (callsIn_wide (n := 9)).1 ?_
  refine callsIn_of_wp_marks Try.func12 rfl trivial ?_ rfl
  simp only [Try.ntmps12, List.size_toArray, List.length_cons, List.length_nil, Nat.reduceAdd, Nat.reduceSub, Array.replicate_succ, Array.replicate_zero, List.push_toArray, List.append_toArray, List.nil_append, List.cons_append]
  clear hM
  gi_wp2_with (refine ⟨trivial, ?_⟩; gi_at_call 15; refine (all_in _ _ _ _ _).mono ?_; rintro e w' ⟨rfl, rfl⟩)
  have b0 : Blk (((w.alloc (.cells #[.int .i64 0] 3)).alloc (.cells #[.bool false] 4)).alloc (.cells #[.slice A k c] 22)) w.heap.size 3 #[.int .i64 0] := ((Blk.new w 3 _ rfl).alloc _).alloc _
  have b2 : Blk (((w.alloc (.cells #[.int .i64 0] 3)).alloc (.cells #[.bool false] 4)).alloc (.cells #[.slice A k c] 22)) (w.heap.size + 1) 4 #[.bool false] := (Blk.new _ 4 _ (by simp)).alloc _
  have b1 : Blk (((w.alloc (.cells #[.int .i64 0] 3)).alloc (.cells #[.bool false] 4)).alloc (.cells #[.slice A k c] 22)) (w.heap.size + 2) 22 #[.slice A k c] := Blk.new _ 22 _ (by simp)
  have hB0 : Below w.heap.size w (((w.alloc (.cells #[.int .i64 0] 3)).alloc (.cells #[.bool false] 4)).alloc (.cells #[.slice A k c] 22)) := (((Below.refl _ w).alloc (Nat.le_refl _) _).alloc (by simp) _).alloc (by simp; omega) _
  have hs0 : Sl (((w.alloc (.cells #[.int .i64 0] 3)).alloc (.cells #[.bool false] 4)).alloc (.cells #[.slice A k c] 22)) lo up 5 A k c (pCells L) := hs.below hB0 hup
  have hsz : w.heap.size + 3 ≤ (((w.alloc (.cells #[.int .i64 0] 3)).alloc (.cells #[.bool false] 4)).alloc (.cells #[.slice A k c] 22)).heap.size := by simp
  obtain ⟨W0, hW0⟩ : ∃ W0, ((w.alloc (.cells #[.int .i64 0] 3)).alloc (.cells #[.bool false] 4)).alloc (.cells #[.slice A k c] 22) = W0 := ⟨_, rfl⟩
  rw [hW0] at b0 b1 b2 hB0 hs0 hsz ⊢
  clear hW0
  refine wpIn_rangeFunc_ownH rfl (by omega) (gf := 20) (lb := #[.pointer (some ⟨w.heap.size + 1 + 1, 0, none⟩)]) rfl trivial (enters_of Try.func20 (by kernel_rfl) rfl)
    (all_stops (9 - 1) (by omega) (w.heap.size + 1 + 1) w.heap.size W0 hs0 hk hup (by omega) hL (b1.rules.1 0) (by omega) HM.out) belowK_t (belowK_b (by omega)) (Below.refl _ _) (fun _ => rfl)
    (fun pre W => (Blk W w.heap.size 3 #[.int .i64 (la (vals pre)).1] ∧ Blk W (w.heap.size + 1) 4 #[.bool (la (vals pre)).2]) ∧ Below w.heap.size w W)
    (fun _ _ _ => False)
    (OwnFrom.and (OwnFrom.and (blk_from _ _ _ _) (blk_from _ _ _ _)) (ownFrom_below (Nat.le_refl _) (by omega)))
    (fun _ _ _ _ _ hs _ _ => hs)
    ⟨⟨b0, b2⟩, hB0⟩
    (fun x a' W => ∃ Bx, w.heap.size + 1 < Bx ∧ Blk W Bx 27 #[.int .i64 x.1.no, .int .i64 x.1.ti, .int .i64 x.1.sz, .bool x.1.el, .bool x.1.pr] ∧ a' = { tmps := #[.slice A k c, undef, .pointer (some ⟨w.heap.size, 0, none⟩), .pointer (some ⟨w.heap.size + 1, 0, none⟩), .pointer (some ⟨Bx, 0, none⟩), .slice A k c, .func (.func 20) #[] #[.pointer (some ⟨w.heap.size + 1 + 1, 0, none⟩)], x.1.val, undef, undef, undef, undef, undef, undef, undef, undef], defers := [] })
    (fun x a' _ X Y row hs hg hr => by obtain ⟨Bx, h1, h2, h3⟩ := hs; exact ⟨Bx, h1, blk_from _ Bx 27 (fun (_ : Unit) => _) () X Y row h2 hg hr, h3⟩)
    ?assign ?body ?done ?stop
  case assign =>
    rintro l pre ⟨⟨no, ti, sz, el, pr⟩, hx⟩ W K ⟨⟨bS1, bT1⟩, hB1⟩ hK
    simp only [Pk.val] at *
    gi_wp2
    exact hK _ _ ((KeepsOthers.alloc _ _).from _) ((Below.refl _ W).alloc hB1.size _) ⟨⟨bS1.alloc _, bT1.alloc _⟩, hB1.alloc hB1.size _⟩ ⟨W.heap.size, bT1.lt, Blk.new W 27 _ rfl, rfl⟩
  case body =>
    rintro l pre ⟨⟨no, ti, sz, el, pr⟩, hx⟩ a' W hl ⟨r, hr⟩ ⟨⟨bS1, bT1⟩, hB1⟩ ⟨Bx, hBx, bX, rfl⟩ hlt
    have ⟨kx, fx⟩ := bX.rules
    have ⟨ks, fs⟩ := bS1.rules
    have ⟨kt, ft⟩ := bT1.rules
    have hsn := la_snoc (vals pre) ⟨no, ti, sz, el, pr⟩
    simp only [Pk.val] at *
    have HSN := Lib.hid hsn
    clear hsn
    obtain ⟨S, hS⟩ : ∃ S, S = la (vals pre) := ⟨_, rfl⟩
    rw [← hS] at bS1 bT1 ks kt HSN
    have HS := Lib.hid hS
    clear hS
    obtain ⟨S, T⟩ := S
    simp only at bS1 bT1 ks kt
    cases el
    · gi_wp2
      refine ⟨KeepsFrom.refl _ _, Below.refl _ _, ?_, hB1⟩
      rw [vals_snoc, HSN.out]
      exact ⟨bS1, bT1⟩
    · by_cases h1 : S < ti
      · have e : laStep (S, T) ⟨no, ti, sz, true, pr⟩ = (ti, true) := by simp only [laStep, if_pos]; rw [show max S ti = ti from by omega]
        rw [e] at HSN
        clear e
        gi_wp2
        all_goals
          refine ⟨((KeepsOthers.setCell _ _ _).trans (KeepsOthers.setCell _ _ _)).from _, ((Below.refl _ W).setCell (p := ⟨w.heap.size, 0, none⟩) (Nat.le_refl _) _).setCell (p := ⟨w.heap.size + 1, 0, none⟩) (by simp) _, ?_, (hB1.setCell (p := ⟨w.heap.size, 0, none⟩) (Nat.le_refl _) _).setCell (p := ⟨w.heap.size + 1, 0, none⟩) (by simp) _⟩
          rw [vals_snoc, HSN.out]
          exact ⟨(bS1.set_ 0 _).far (by simp) _, (bT1.far (by simp) _).set_ 0 _⟩
      · have e : laStep (S, T) ⟨no, ti, sz, true, pr⟩ = (S, true) := by simp only [laStep, if_pos]; rw [show max S ti = S from by omega]
        rw [e] at HSN
        clear e
        gi_wp2
        refine ⟨((KeepsOthers.setCell _ _ _).trans (KeepsOthers.setCell _ _ _)).from _, ((Below.refl _ W).setCell (p := ⟨w.heap.size, 0, none⟩) (Nat.le_refl _) _).setCell (p := ⟨w.heap.size + 1, 0, none⟩) (by simp) _, ?_, (hB1.setCell (p := ⟨w.heap.size, 0, none⟩) (Nat.le_refl _) _).setCell (p := ⟨w.heap.size + 1, 0, none⟩) (by simp) _⟩
        rw [vals_snoc, HSN.out]
        exact ⟨(bS1.set_ 0 _).far (by simp) _, (bT1.far (by simp) _).set_ 0 _⟩
  case done =>
    rintro D ys W hD rfl ⟨⟨bS1, bT1⟩, hB⟩ hK
    have ⟨ks, fs⟩ := bS1.rules
    have ⟨kt, ft⟩ := bT1.rules
    rw [vals_all] at *
    obtain ⟨S, hS⟩ : ∃ S, S = la M := ⟨_, rfl⟩
    rw [← hS] at bS1 bT1 ks kt
    have HS := Lib.hid hS
    clear hS
    obtain ⟨S, T⟩ := S
    simp only at bS1 bT1 ks kt
    gi_wp2
    gi_region
    gi_wp2
    have hK' := ((KeepsOthers.setCell W ⟨w.heap.size, 0, none⟩ (.int .i64 S)).trans (KeepsOthers.setCell _ ⟨w.heap.size + 1, 0, none⟩ (.bool T))).same D _ hK rfl
    have hK2 : (((W.setCell ⟨w.heap.size, 0, none⟩ (.int .i64 S)).setCell ⟨w.heap.size + 1, 0, none⟩ (.bool T)).drew).heap[D]? = some (.deferred (some [])) := hK'
    refine ⟨by simp, .inl ⟨_, _, rfl, run_takeDeferred hK2, ?_⟩⟩
    have b5 : Blk ((((W.setCell ⟨w.heap.size, 0, none⟩ (.int .i64 S)).setCell ⟨w.heap.size + 1, 0, none⟩ (.bool T)).drew).putObj D (.deferred none)) w.heap.size 3 #[.int .i64 S] := Blk.grown (Blk.drew ((bS1.set_ 0 _).far (by simp) _)) (grownBy_putObj' _ D _) (fun e => by cases e; omega)
    have b6 : Blk ((((W.setCell ⟨w.heap.size, 0, none⟩ (.int .i64 S)).setCell ⟨w.heap.size + 1, 0, none⟩ (.bool T)).drew).putObj D (.deferred none)) (w.heap.size + 1) 4 #[.bool T] := Blk.grown (Blk.drew ((bT1.far (by simp) _).set_ 0 _)) (grownBy_putObj' _ D _) (fun e => by cases e; omega)
    have hc5 := b5.rules.1 0
    have hc6 := b6.rules.1 0
    simp only [List.getElem?_toArray, List.getElem?_cons_zero] at hc5 hc6
    refine ⟨.tuple #[.int .i64 S, .bool T], ?_, by rw [← HS.out], (((hB.setCell (p := ⟨w.heap.size, 0, none⟩) (Nat.le_refl _) _).setCell (p := ⟨w.heap.size + 1, 0, none⟩) (by simp) _).drew).trans (belowK_b (w := w) (Nat.le_refl _) _ D _ _ (by omega) hK2 rfl rfl)⟩
    simp [results, Try.f12, go_sem, hc5, hc6]
  case stop =>
    rintro D c pre W _ _ h _
    exact h.elim
end Go.Proofs.Ytgebebdapfnmpaa
