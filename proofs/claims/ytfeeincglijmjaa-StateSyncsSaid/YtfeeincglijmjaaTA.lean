/- The walks of state's many, and of bytes' and slices' Clone. -/
import Derived.Test.YtfeeincglijmjaaZB14
namespace Go.Proofs.Ytfeeincglijmjaa
open Go.RowKit
set_option linter.unusedVariables false
set_option linter.unusedSimpArgs false
attribute [local go_sem ↓] Go.wp_at_zero Go.wp_at_succ

/-- How many parts there are, as one tells; 0: it is none. -/
def dMany (b : List UInt8) : Int := match rPart b with
  | none => 0
  | some (_, m, _) => m
theorem dMany_bnd (b : List UInt8) : 0 ≤ dMany b ∧ dMany b ≤ 4096 := by
  unfold dMany
  cases h : rPart b with
  | none => simp
  | some q =>
    obtain ⟨k, m, r⟩ := q
    have := rPart_bnd h
    simp only
    omega

set_option maxHeartbeats 4000000 in
set_option maxRecDepth 100000 in
theorem many_any {lo up : Nat} {A : Option Addr} {n c : Nat} {l : List UInt8} {w : World} (hr : Sl w lo up 1 A n c (byteCells l)) (hn : n ≤ 1000000) :
    Calls Try.prog 49 #[.slice A n c] w fun e w' => e = .returned (.int .i64 (dMany l)) ∧ w' = w := by
  obtain ⟨j0, hj0, jz0, jz1, jz2⟩ := info_parts info5
  have hl0 : n = l.length := by have := hr.len; rw [byteCells_length] at this; omega
  subst hl0
  have HG := Lib.hid (fun n c A l (h : Sl w lo up 1 A n c (byteCells l)) => get_any h)
  unfold dMany rPart
  rcases vGet_cases l with ⟨g0, g1, g2⟩ | g0
  rotate_left
  · rw [if_pos (by rw [g0]; decide)]
    go_enter Try.func49, Try.ntmps49
    go_wp2_with fail
    refine (HG.out _ _ _ _ hr).mono ?_
    rintro e w2 ⟨rfl, rfl⟩
    rw [g0]
    go_wp2_with fail
    go_ret
    exact ⟨rfl, rfl⟩
  · rw [if_neg (by rw [g0]; decide)]
    obtain ⟨A3, hcut, hs3⟩ := cut_l Try.underlying23 hj0 jz1 hr (vGet l).2.1 (l.length - (vGet l).2.1) ((vGet l).2.1 : Int) rfl (by omega)
    rw [Nat.mul_one, byteCells_drop] at hs3
    have HG1 := HG.out _ _ _ _ hr
    have HG2 := HG.out _ _ _ _ hs3
    have hl3 : (l.drop (vGet l).2.1).length = l.length - (vGet l).2.1 := List.length_drop
    have hc2 := vGet_cases (l.drop (vGet l).2.1)
    rw [hl3] at hc2
    obtain ⟨⟨x, s, e0⟩, hq⟩ : ∃ q, q = vGet l := ⟨_, rfl⟩
    rw [← hq] at HG1 HG2 hcut hc2 g0 g1 g2 ⊢
    simp only at HG1 HG2 hcut hc2 g0 g1 g2 ⊢
    subst g0
    clear hq hl3 hs3
    obtain ⟨⟨y, s2, e2⟩, hq⟩ : ∃ q, q = vGet (l.drop s) := ⟨_, rfl⟩
    rw [← hq] at HG2 hc2 ⊢
    simp only at HG2 hc2 ⊢
    clear hq
    have HG1 := Lib.hid HG1
    have HG2 := Lib.hid HG2
    have hsb : (s : Int) ≤ l.length := by omega
    have hsb2 : (s : Int) ≤ 1000000 := by omega
    rcases hc2 with ⟨rfl, t1, t2⟩ | hc2
    rotate_left
    · injection hc2 with e1 e2'
      injection e2' with e2' e3'
      subst e1 e2' e3'
      rw [if_pos (.inl (by decide))]
      go_enter Try.func49, Try.ntmps49
      go_wp2_with fail
      refine HG1.out.mono ?_
      rintro e w2 ⟨rfl, rfl⟩
      go_wp2_with fail
      refine HG2.out.mono ?_
      rintro e w2 ⟨rfl, rfl⟩
      go_wp2_with fail
      go_ret
      exact ⟨rfl, rfl⟩
    · have hsb3 : (s2 : Int) ≤ 1000000 := by omega
      by_cases hm : 4096 < y
      · rw [if_pos (.inr (.inl hm))]
        go_enter Try.func49, Try.ntmps49
        go_wp2_with fail
        refine HG1.out.mono ?_
        rintro e w2 ⟨rfl, rfl⟩
        go_wp2_with fail
        refine HG2.out.mono ?_
        rintro e w2 ⟨rfl, rfl⟩
        go_wp2_with fail
        go_ret
        exact ⟨rfl, rfl⟩
      · by_cases hat : y ≤ x
        · rw [if_pos (.inr (.inr hat))]
          go_enter Try.func49, Try.ntmps49
          go_wp2_with fail
          refine HG1.out.mono ?_
          rintro e w2 ⟨rfl, rfl⟩
          go_wp2_with fail
          refine HG2.out.mono ?_
          rintro e w2 ⟨rfl, rfl⟩
          go_wp2_with fail
          go_ret
          exact ⟨rfl, rfl⟩
        · rw [if_neg (by omega)]
          go_enter Try.func49, Try.ntmps49
          go_wp2_with fail
          refine HG1.out.mono ?_
          rintro e w2 ⟨rfl, rfl⟩
          go_wp2_with fail
          refine HG2.out.mono ?_
          rintro e w2 ⟨rfl, rfl⟩
          go_wp2_with fail
          go_ret
          exact ⟨rfl, rfl⟩

/-- Bytes of the callee's own. -/
def RetBy (w : World) (l : List UInt8) (e : Ending) (w' : World) : Prop :=
  ∃ A c, e = .returned (.slice A l.length c) ∧ w'.ownsRow w.heap.size 5 1 (.slice A l.length c) l.length (byteCells l) ∧ Below w.heap.size w w'
set_option maxRecDepth 100000 in
theorem bclone_any {lo up : Nat} {A : Option Addr} {n c : Nat} {l : List UInt8} {w : World} (hr : Sl w lo up 1 A n c (byteCells l)) (hup : up ≤ w.heap.size) (hn : n ≤ 1000000) :
    Calls Try.prog 48 #[.slice A n c] w (RetBy w l) := by
  have hl : n = l.length := by have := hr.len; rw [byteCells_length] at this; omega
  obtain ⟨i0, hi0, hz0, hz1, hz2⟩ := info_parts info5
  rcases A with _ | ad
  · have hc := hr.nil rfl
    have hle := hr.le
    obtain rfl : c = 0 := hc
    obtain rfl : n = 0 := by omega
    obtain rfl : l = [] := List.eq_nil_of_length_eq_zero hl.symm
    have q : ∀ (w : World), (binOp .eql 23 (.slice none 0 0) (.slice none 0 0)).run Try.prog w = .ok (.bool true) w := fun w => Lib.run_eql_slice_nil w _ _ none 0 0 0 0 Try.underlying23
    clear hl hle hn hi0 hz0 hz1 hz2 hr hup
    go_enter Try.func48, Try.ntmps48
    go_wp2
    go_ret
    exact ⟨none, 0, rfl, World.ownsRow_nil _ _ _ _, Below.refl _ _⟩
  · subst hl
    have q : ∀ (w : World), (binOp .eql 23 (.slice (some ad) l.length c) (.slice none 0 0)).run Try.prog w = .ok (.bool false) w := fun w => Lib.run_eql_slice_nil w _ _ (some ad) l.length c 0 0 Try.underlying23
    go_enter Try.func48, Try.ntmps48
    go_wp2_with (at_builtin; refine wpList_append_sl _ rfl (.tmp 5) (.tmp 6) _ rfl w.heap.size 5 i0 _ 1 1 Try.underlying23 hi0 hz0 hz1 hz2 rfl (by omega) (.slice (some ⟨w.heap.size, 0, none⟩) 0 0) 0 [] rfl (own_made rfl (Nat.le_refl _)) lo up _ l.length c _ rfl (hr.alloc hup _) (byteCells_one l) l.length (by omega) _ rfl (by unfold maxLen; omega) (by omega) (by simp) ?_; intro A' c' w' hown hg)
    go_ret
    exact ⟨A', c', rfl, hown, ((Below.refl _ _).alloc (Nat.le_refl _) _).grown hg (by simp) (fun k hk => by simp [Value.ownBlock] at hk; omega)⟩

/-- A row of rows, of the callee's own. -/
def RetVs (w : World) (vs : List Value) (e : Ending) (w' : World) : Prop :=
  ∃ A c, e = .returned (.slice A vs.length c) ∧ w'.ownsRow w.heap.size 23 1 (.slice A vs.length c) vs.length vs ∧ Below w.heap.size w w'
theorem Ps.one {w : World} {lo up : Nat} {vs : List Value} {ps : List (List UInt8)} (h : Ps w lo up vs ps) : ∀ u ∈ vs, u.oneCell' = true := by
  intro u hu
  obtain ⟨i, hi, rfl⟩ := List.mem_iff_getElem.1 hu
  obtain ⟨A, c, e, _⟩ := h.2 i vs[i] (ps[i]'(by rw [← h.1]; exact hi)) (List.getElem?_eq_getElem hi) (List.getElem?_eq_getElem _)
  rw [e]
  rfl
set_option maxRecDepth 100000 in
theorem vclone_any {lo up : Nat} {A : Option Addr} {n c : Nat} {vs : List Value} {w : World} (hr : Sl w lo up 1 A n c vs) (hup : up ≤ w.heap.size) (hn : n ≤ 1000000) (h1 : ∀ u ∈ vs, u.oneCell' = true) :
    Calls Try.prog 47 #[.slice A n c] w (RetVs w vs) := by
  have hl : n = vs.length := by have := hr.len; omega
  obtain ⟨i0, hi0, hz0, hz1, hz2⟩ := info_parts info23
  rcases A with _ | ad
  · have hc := hr.nil rfl
    have hle := hr.le
    obtain rfl : c = 0 := hc
    obtain rfl : n = 0 := by omega
    obtain rfl : vs = [] := List.eq_nil_of_length_eq_zero hl.symm
    have q : ∀ (w : World), (binOp .eql 29 (.slice none 0 0) (.slice none 0 0)).run Try.prog w = .ok (.bool true) w := fun w => Lib.run_eql_slice_nil w _ _ none 0 0 0 0 Try.underlying29
    clear hl hle hn hi0 hz0 hz1 hz2 hr hup h1
    go_enter Try.func47, Try.ntmps47
    go_wp2
    go_ret
    exact ⟨none, 0, rfl, World.ownsRow_nil _ _ _ _, Below.refl _ _⟩
  · subst hl
    have q : ∀ (w : World), (binOp .eql 29 (.slice (some ad) vs.length c) (.slice none 0 0)).run Try.prog w = .ok (.bool false) w := fun w => Lib.run_eql_slice_nil w _ _ (some ad) vs.length c 0 0 Try.underlying29
    go_enter Try.func47, Try.ntmps47
    go_wp2_with (at_builtin; refine wpList_append_sl _ rfl (.tmp 5) (.tmp 6) _ rfl w.heap.size 23 i0 _ 1 24 Try.underlying29 hi0 hz0 hz1 hz2 rfl (by omega) (.slice (some ⟨w.heap.size, 0, none⟩) 0 0) 0 [] rfl (own_made rfl (Nat.le_refl _)) lo up _ vs.length c _ rfl (hr.alloc hup _) h1 vs.length (by omega) _ rfl (by unfold maxLen; omega) (by omega) (by simp) ?_; intro A' c' w' hown hg)
    go_ret
    exact ⟨A', c', rfl, hown, ((Below.refl _ _).alloc (Nat.le_refl _) _).grown hg (by simp) (fun k hk => by simp [Value.ownBlock] at hk; omega)⟩
end Go.Proofs.Ytfeeincglijmjaa
