/- The walks of sent.Flight, Last, When. -/
import Derived.Test.YtgebebdapfnmpaaB
namespace Go.Proofs.Ytgebebdapfnmpaa
open Go.RowKit
set_option linter.unusedVariables false
set_option linter.unusedSimpArgs false
attribute [local go_sem] Oper.semAt_some

theorem good_bnd {L : List Pk} (h : pGood L) : ∀ p ∈ L, 0 ≤ p.no ∧ (0 ≤ p.ti ∧ p.ti ≤ 1099511627776) ∧ 0 ≤ p.sz ∧ p.sz ≤ 65535 := by
  have key : ∀ i (hi : i < L.length), 0 ≤ L[i].no := by
    intro i
    induction i with
    | zero =>
      intro hi
      have := h 0 hi
      rw [dif_neg (by omega)] at this
      apply Classical.byContradiction
      intro hh
      exact this (.inl (by omega))
    | succ i ih =>
      intro hi
      have h1 := ih (by omega)
      have h2 := h (i + 1) hi
      rw [dif_pos (by omega)] at h2
      apply Classical.byContradiction
      intro hh
      exact h2 (.inl (by simp only [Nat.add_sub_cancel]; omega))
  intro p hp
  obtain ⟨i, hi, rfl⟩ := List.getElem_of_mem hp
  have h2 := h i hi
  have ht : L[i].ti = tm L[i].ti := Classical.byContradiction fun hh => h2 (.inr (.inl hh))
  have := tm_bound L[i].ti
  exact ⟨key i hi, by omega, Int.not_lt.1 fun hh => h2 (.inr (.inr (.inl hh))), Int.not_lt.1 fun hh => h2 (.inr (.inr (.inr hh)))⟩

theorem blk_from {β : Type} (B g : Nat) (t : TypeId) (cs : β → Array Value) : OwnFrom B (fun (s : β) W => Blk W g t (cs s)) := fun s W W' row hs hg hr =>
  hs.grown hg fun e => by
    obtain ⟨_, o, ho, hc⟩ := hr g e.symm
    unfold Blk at hs
    rw [hs] at ho
    cases ho
    cases hc
theorem pure_from {β : Type} (B : Nat) (p : β → Prop) : OwnFrom B (fun (s : β) _ => p s) := fun _ _ _ _ hs _ _ => hs

/-- The packets that came. -/
def vals {M : List Pk} (l : List (In M)) : List Pk := l.map (·.1)
theorem vals_snoc {M : List Pk} (l : List (In M)) (x : In M) : vals (l ++ [x]) = vals l ++ [x.1] := by simp [vals]
theorem vals_all (M : List Pk) : vals M.attach = M := by unfold vals; exact List.attach_map_subtype_val M
theorem vals_len {M : List Pk} (l : List (In M)) : (vals l).length = l.length := by simp [vals]
/-- How many bytes are on their way. -/
def fl (l : List Pk) : Int := (l.map fun p => if p.el then p.sz else 0).sum
theorem fl_snoc (l : List Pk) (p : Pk) : fl (l ++ [p]) = fl l + if p.el then p.sz else 0 := by simp [fl]
theorem fl_bnd {M : List Pk} (hM : ∀ p ∈ M, 0 ≤ p.sz ∧ p.sz ≤ 65535) (l : List (In M)) : 0 ≤ fl (vals l) ∧ fl (vals l) ≤ 65535 * l.length := by
  induction l with
  | nil => simp [fl, vals]
  | cons x l ih =>
    have := hM x.1 x.2
    simp only [fl, vals, List.map_cons, List.sum_cons, List.length_cons] at ih ⊢
    split <;> omega

set_option maxRecDepth 100000 in
set_option maxHeartbeats 8000000 in
theorem flight_any {lo up c : Nat} {A : Option Addr} {k : Nat} {L M : List Pk} {w : World} (hs : Sl w lo up 5 A k c (pCells L)) (hup : up ≤ w.heap.size) (hk : k ≤ 9223372036854775807) (hL : pWf L) (hM : pOk L ∧ M = L ∨ ¬ pOk L ∧ M = []) :
    Calls Try.prog 13 #[.slice A k c] w fun e w' => e = .returned (.int .i64 (fl M)) ∧ Below w.heap.size w w' := by
  have hMl : M.length ≤ 300 := by rcases hM with ⟨h, rfl⟩ | ⟨_, rfl⟩; exact h.2; simp
  have hMb : ∀ p ∈ M, 0 ≤ p.sz ∧ p.sz ≤ 65535 := by
    rcases hM with ⟨h, rfl⟩ | ⟨_, rfl⟩
    · exact fun p hp => (good_bnd h.1 p hp).2.2
    · intro p hp; cases hp
  have HFB := Lib.hid (fl_bnd hMb)
  have HM := Lib.hid hM
  have HMB := Lib.hid hMb
  refine (callsIn_wide (n := 9)).1 ?_
  refine callsIn_of_wp_marks Try.func13 rfl trivial ?_ rfl
  simp only [Try.ntmps13, List.size_toArray, List.length_cons, List.length_nil, Nat.reduceAdd, Nat.reduceSub, Array.replicate_succ, Array.replicate_zero, List.push_toArray, List.append_toArray, List.nil_append, List.cons_append]
  clear hM hMb
  gi_wp2_with (refine ⟨trivial, ?_⟩; gi_at_call 15; refine (all_in _ _ _ _ _).mono ?_; rintro e w' ⟨rfl, rfl⟩)
  have b0 : Blk ((w.alloc (.cells #[.int .i64 0] 3)).alloc (.cells #[.slice A k c] 22)) w.heap.size 3 #[.int .i64 0] := (Blk.new w 3 _ rfl).alloc _
  have b1 : Blk ((w.alloc (.cells #[.int .i64 0] 3)).alloc (.cells #[.slice A k c] 22)) (w.heap.size + 1) 22 #[.slice A k c] := Blk.new _ 22 _ (by simp)
  have hB0 : Below w.heap.size w ((w.alloc (.cells #[.int .i64 0] 3)).alloc (.cells #[.slice A k c] 22)) := ((Below.refl _ w).alloc (Nat.le_refl _) _).alloc (by simp) _
  have hs0 : Sl ((w.alloc (.cells #[.int .i64 0] 3)).alloc (.cells #[.slice A k c] 22)) lo up 5 A k c (pCells L) := hs.below hB0 hup
  have hsz : w.heap.size + 2 ≤ ((w.alloc (.cells #[.int .i64 0] 3)).alloc (.cells #[.slice A k c] 22)).heap.size := by simp
  obtain ⟨W0, hW0⟩ : ∃ W0, (w.alloc (.cells #[.int .i64 0] 3)).alloc (.cells #[.slice A k c] 22) = W0 := ⟨_, rfl⟩
  rw [hW0] at b0 b1 hB0 hs0 hsz ⊢
  clear hW0
  refine wpIn_rangeFunc_ownH rfl (by omega) (gf := 20) (lb := #[.pointer (some ⟨w.heap.size + 1, 0, none⟩)]) rfl trivial (enters_of Try.func20 (by kernel_rfl) rfl)
    (all_stops (9 - 1) (by omega) (w.heap.size + 1) w.heap.size W0 hs0 hk hup (by omega) hL (b1.rules.1 0) (by omega) HM.out) belowK_t (belowK_b (by omega)) (Below.refl _ _) (fun _ => rfl)
    (fun pre W => Blk W w.heap.size 3 #[.int .i64 (fl (vals pre))] ∧ Below w.heap.size w W)
    (fun _ _ _ => False)
    (OwnFrom.and (blk_from _ _ _ _) (ownFrom_below (Nat.le_refl _) (by omega)))
    (fun _ _ _ _ _ hs _ _ => hs)
    ⟨b0, hB0⟩
    (fun x a' W => ∃ Bx, w.heap.size < Bx ∧ Blk W Bx 27 #[.int .i64 x.1.no, .int .i64 x.1.ti, .int .i64 x.1.sz, .bool x.1.el, .bool x.1.pr] ∧ a' = { tmps := #[.slice A k c, undef, .pointer (some ⟨w.heap.size, 0, none⟩), .pointer (some ⟨Bx, 0, none⟩), .slice A k c, .func (.func 20) #[] #[.pointer (some ⟨w.heap.size + 1, 0, none⟩)], x.1.val, undef, undef, undef, undef, undef, undef, undef], defers := [] })
    (fun x a' _ X Y row hs hg hr => by obtain ⟨Bx, h1, h2, h3⟩ := hs; exact ⟨Bx, h1, blk_from _ Bx 27 (fun (_ : Unit) => _) () X Y row h2 hg hr, h3⟩)
    ?assign ?body ?done ?stop
  case assign =>
    rintro l pre ⟨⟨no, ti, sz, el, pr⟩, hx⟩ W K ⟨bS1, hB1⟩ hK
    simp only [Pk.val] at *
    gi_wp2
    exact hK _ _ ((KeepsOthers.alloc _ _).from _) ((Below.refl _ W).alloc hB1.size _) ⟨bS1.alloc _, hB1.alloc hB1.size _⟩ ⟨W.heap.size, bS1.lt, Blk.new W 27 _ rfl, rfl⟩
  case body =>
    rintro l pre ⟨⟨no, ti, sz, el, pr⟩, hx⟩ a' W hl ⟨r, hr⟩ ⟨bS1, hB1⟩ ⟨Bx, hBx, bX, rfl⟩ hlt
    have ⟨kx, fx⟩ := bX.rules
    have ⟨ks, fs⟩ := bS1.rules
    have hbd := HMB.out _ hx
    have hfb := HFB.out pre
    have hsn := fl_snoc (vals pre) ⟨no, ti, sz, el, pr⟩
    simp only [Pk.val] at *
    have HSN := Lib.hid hsn
    clear hsn HFB
    generalize fl (vals pre) = S at *
    cases el
    · gi_wp2
      refine ⟨KeepsFrom.refl _ _, Below.refl _ _, ?_, hB1⟩
      rw [vals_snoc, HSN.out]
      simpa using bS1
    · gi_wp2
      refine ⟨(KeepsOthers.setCell _ _ _).from _, (Below.refl _ W).setCell (p := ⟨w.heap.size, 0, none⟩) (Nat.le_refl _) _, ?_, hB1.setCell (p := ⟨w.heap.size, 0, none⟩) (Nat.le_refl _) _⟩
      rw [vals_snoc, HSN.out]
      exact bS1.set_ 0 _
  case done =>
    rintro D ys W hD rfl ⟨bS1, hB⟩ hK
    have ⟨ks, fs⟩ := bS1.rules
    rw [vals_all] at *
    obtain ⟨S, hS⟩ : ∃ S, S = fl M := ⟨_, rfl⟩
    rw [← hS] at bS1 ks
    have HS := Lib.hid hS
    clear hS
    gi_wp2
    have hK' := (KeepsOthers.setCell W ⟨w.heap.size, 0, none⟩ (.int .i64 S)).same D _ hK rfl
    refine ⟨by simp, .inl ⟨_, _, rfl, run_takeDeferred hK', ?_⟩⟩
    have b5 : Blk ((W.setCell ⟨w.heap.size, 0, none⟩ (.int .i64 S)).putObj D (.deferred none)) w.heap.size 3 #[.int .i64 S] := Blk.grown (bS1.set_ 0 _) (grownBy_putObj' _ D _) (fun e => by cases e; omega)
    have hc5 := b5.rules.1 0
    simp only [List.getElem?_toArray, List.getElem?_cons_zero] at hc5
    refine ⟨.int .i64 S, ?_, by rw [HS.out], (hB.setCell (p := ⟨w.heap.size, 0, none⟩) (Nat.le_refl _) _).trans (belowK_b (w := w) (Nat.le_refl _) _ D _ _ (by omega) hK' rfl rfl)⟩
    simp [results, Try.f13, go_sem, hc5]
  case stop =>
    rintro D c pre W _ _ h _
    exact h.elim
end Go.Proofs.Ytgebebdapfnmpaa
