/- The walks of ranges.of, slices.Clone, slices.IndexFunc and slices.ContainsFunc at ranges, the closures that are handed to them, ranges.Has. -/
import Derived.Test.YtgebebdapfnmpaaRC
import Derived.Test.YtgebebdapfnmpaaRQ
namespace Go.Proofs.Ytgebebdapfnmpaa
open Go.RowKit
set_option linter.unusedVariables false
set_option linter.unusedSimpArgs false
attribute [local go_sem ↓] Go.wp_at_zero Go.wp_at_succ

theorem info41 : (Try.prog.info? 41).map (fun i => (i.zero, i.size, i.bytes)) = some (some (.agg #[.int .i64 0, .int .i64 0]), 2, 16) := by kernel_rfl

/-- Numbers of ranges that are Go's. -/
def rWf (l : List (Int × Int)) : Prop := ∀ p ∈ l, (-9223372036854775808 ≤ p.1 ∧ p.1 ≤ 9223372036854775807) ∧ (-9223372036854775808 ≤ p.2 ∧ p.2 ≤ 9223372036854775807)
theorem rWf_desc {l : List (Int × Int)} (h : rDesc 4611686018427387904 l) : rWf l := fun p hp => by have := rDesc_mem h p hp; omega
theorem rWf_of {l : List (Int × Int)} : rWf (rOf l) := rWf_desc (rOf_desc l).1

/-- What ranges of the callee's own are handed back as. -/
def RetR (w : World) (l : List (Int × Int)) (e : Ending) (w' : World) : Prop :=
  ∃ A c, e = .returned (.slice A l.length c) ∧ w'.ownsRow w.heap.size 41 2 (.slice A l.length c) l.length (rCells l) ∧ Below w.heap.size w w'
/-- What ranges that lie where others lay are handed back as. -/
def RetSl (w : World) (lo up : Nat) (l : List (Int × Int)) (e : Ending) (w' : World) : Prop :=
  ∃ A n c, e = .returned (.slice A n c) ∧ Sl w' lo up 2 A n c (rCells l) ∧ Below w.heap.size w w'

theorem of_any {lo up : Nat} {A : Option Addr} {n c : Nat} {l : List (Int × Int)} {w : World} (hr : Sl w lo up 2 A n c (rCells l)) (hup : up ≤ w.heap.size) (hn : n ≤ 1000) (hl : rWf l) :
    Calls Try.prog 22 #[.slice A n c] w (RetSl w lo up (rOf l)) := by
  have H := Lib.hid (fun W (h : Sl W lo up 2 A n c (rCells l)) hu => rcheck_any (w := W) h hu hn hl (rOk l) (rOk_iff l))
  have HR := Lib.hid hr
  clear hr hl
  by_cases hk : rOk l = true
  · rw [rOf_ok hk]
    rw [hk] at H
    go_enter Try.func22, Try.ntmps22
    go_wp2_with fail
    refine (H.out _ HR.out hup).mono ?_
    rintro e w1 ⟨rfl, hb⟩
    go_wp2
    go_ret
    exact ⟨A, n, c, rfl, HR.out.below hb hup, hb⟩
  · have hk2 : rOk l = false := by simpa using hk
    rw [show rOf l = [] from if_neg hk]
    rw [hk2] at H
    clear hk hk2
    go_enter Try.func22, Try.ntmps22
    go_wp2_with fail
    refine (H.out _ HR.out hup).mono ?_
    rintro e w1 ⟨rfl, hb⟩
    go_wp2
    go_ret
    exact ⟨none, 0, 0, rfl, Sl.empty _ _ _ _, hb⟩

/-- The place of the first range of which something is so, or below 0. -/
def rIdx (p : Int × Int → Bool) (l : List (Int × Int)) : Int := if l.any p = true then (l.findIdx p : Int) else -1
theorem rIdx_at {p : Int × Int → Bool} {l : List (Int × Int)} {i : Nat} (h : i < l.length) (hp : p l[i] = true) (hno : ∀ j (hj : j < l.length), j < i → p l[j] = false) : rIdx p l = i := by
  unfold rIdx
  rw [if_pos (List.any_eq_true.2 ⟨l[i], List.getElem_mem h, hp⟩), (List.findIdx_eq h).2 ⟨hp, fun j hj => hno j (by omega) hj⟩]
theorem rIdx_none {p : Int × Int → Bool} {l : List (Int × Int)} (hno : ∀ j (hj : j < l.length), p l[j] = false) : rIdx p l = -1 ∧ l.any p = false := by
  have : l.any p = false := by
    rw [List.any_eq_false]
    intro x hx
    obtain ⟨j, hj, rfl⟩ := List.getElem_of_mem hx
    rw [hno j hj]
    simp
  exact ⟨by unfold rIdx; rw [this]; rfl, this⟩

set_option maxHeartbeats 4000000 in
theorem index_any {lo up : Nat} {A : Option Addr} {n c g : Nat} {l : List (Int × Int)} {w : World} (hr : Sl w lo up 2 A n c (rCells l)) (hup : up ≤ w.heap.size) (hn : n ≤ 1000) (k : Nat) (hk : k = 23) (p : Int × Int → Bool)
    (H : ∀ i (h : i < l.length) (W : World), Below w.heap.size w W → Calls Try.prog k #[.agg #[.int .i64 l[i].1, .int .i64 l[i].2], .pointer (some ⟨g, 0, none⟩)] W fun e w' => e = .returned (.bool (p l[i])) ∧ Below W.heap.size W w') :
    Calls Try.prog 24 #[.slice A n c, .func (.func k) #[] #[.pointer (some ⟨g, 0, none⟩)]] w fun e w' => e = .returned (.int .i64 (rIdx p l)) ∧ Below w.heap.size w w' := by
  have hlen : n = l.length := by have := hr.len; rw [rCells_length] at this; omega
  subst hlen
  subst hk
  all_goals
    have HR := Lib.hid hr
    have HH := Lib.hid H
    clear hr H
    go_enter Try.func24, Try.ntmps24
    go_wp2_with fail
    go_loopg [8] l.length (fun gh s8 wr => ∃ i : Nat, gh = l.length - i ∧ i ≤ l.length ∧ s8 = .int .i64 i ∧ Below w.heap.size w wr ∧ Hid (∀ j (h : j < l.length), j < i → p l[j] = false))
    case atStart => exact ⟨0, by omega, by omega, rfl, Below.refl _ _, Lib.hid (fun _ _ h => absurd h (by omega))⟩
    case round =>
      obtain ⟨i, hg, hi, rfl, bb, hno⟩ := hrel
      have z0 := bb.size
      by_cases h : i < l.length
      · obtain ⟨b, o, rfl, hgu, hc⟩ := slr_cell (HR.out.below bb hup) (by omega)
        have k1 := (hc i h).1
        have k2 := (hc i h).2
        have a1 := addr_add b o (i * 2)
        have HC := Lib.hid (HH.out i h wr bb)
        cases hp : p l[i]
        · have hno2 : ∀ j (h : j < l.length), j < i + 1 → p l[j] = false := by
            intro j hj hj1
            by_cases hji : j < i
            · exact hno.out j hj hji
            · obtain rfl : j = i := by omega
              exact hp
          have Hno2 := Lib.hid hno2
          rw [hp] at HC
          clear hno2 hno hp hc
          generalize l[i].1 = x at *
          generalize l[i].2 = y at *
          go_wp2_with fail
          refine HC.out.mono ?_
          rintro e w1 ⟨rfl, hb⟩
          go_wp2
          go_roundg (l.length - (i + 1))
          case measure => omega
          case rel => exact ⟨i + 1, rfl, by omega, by simp, bb.trans (hb.mono z0), Hno2⟩
        · have hidx := rIdx_at h hp hno.out
          have Hidx := Lib.hid hidx
          rw [hp] at HC
          clear hno hp hc hidx
          generalize l[i].1 = x at *
          generalize l[i].2 = y at *
          go_wp2_with fail
          refine HC.out.mono ?_
          rintro e w1 ⟨rfl, hb⟩
          go_wp2
          go_ret
          exact ⟨by rw [Hidx.out]; rfl, bb.trans (hb.mono z0)⟩
      · obtain rfl : i = l.length := by omega
        have hidx := (rIdx_none (fun j hj => hno.out j hj hj)).1
        have Hidx := Lib.hid hidx
        clear hno hidx
        go_wp2
        go_ret
        exact ⟨by rw [Hidx.out]; rfl, bb⟩

theorem rIdx_any (p : Int × Int → Bool) (l : List (Int × Int)) : decide (0 ≤ rIdx p l) = l.any p := by
  unfold rIdx
  cases h : l.any p
  · simp
  · simp

theorem contains_any {lo up : Nat} {A : Option Addr} {n c g : Nat} {l : List (Int × Int)} {w : World} (hr : Sl w lo up 2 A n c (rCells l)) (hup : up ≤ w.heap.size) (hn : n ≤ 1000) (k : Nat) (hk : k = 23) (p : Int × Int → Bool)
    (H : ∀ i (h : i < l.length) (W : World), Below w.heap.size w W → Calls Try.prog k #[.agg #[.int .i64 l[i].1, .int .i64 l[i].2], .pointer (some ⟨g, 0, none⟩)] W fun e w' => e = .returned (.bool (p l[i])) ∧ Below W.heap.size W w') :
    Calls Try.prog 21 #[.slice A n c, .func (.func k) #[] #[.pointer (some ⟨g, 0, none⟩)]] w fun e w' => e = .returned (.bool (l.any p)) ∧ Below w.heap.size w w' := by
  have HI := Lib.hid (index_any hr hup hn k hk p H)
  clear H hr hk
  have ha := rIdx_any p l
  have HA := Lib.hid ha
  clear ha
  obtain ⟨r, hr⟩ : ∃ r, r = l.any p := ⟨_, rfl⟩
  rw [← hr] at HA ⊢
  clear hr
  generalize rIdx p l = x at *
  go_enter Try.func21, Try.ntmps21
  go_wp2_with fail
  refine HI.out.mono ?_
  rintro e w1 ⟨rfl, hb⟩
  go_wp2
  go_ret
  refine ⟨?_, hb⟩
  rw [← HA.out]
  try rfl

/-- The closure of Has. -/
theorem has_fn {x y n : Int} {g : Nat} {w : World} (hk : Blk w g 3 #[.int .i64 n]) :
    Calls Try.prog 23 #[.agg #[.int .i64 x, .int .i64 y], .pointer (some ⟨g, 0, none⟩)] w fun e w' => e = .returned (.bool (decide (x ≤ n ∧ n ≤ y))) ∧ Below w.heap.size w w' := by
  have ⟨kc, kf⟩ := hk.rules
  have hlt := hk.lt
  by_cases h1 : x ≤ n
  · by_cases h2 : n ≤ y
    · have hd : decide (x ≤ n ∧ n ≤ y) = true := by simp [h1, h2]
      rw [hd]
      clear hk hd
      go_enter Try.func23, Try.ntmps23
      go_wp2
      go_ret
      exact ⟨rfl, (Below.refl _ _).alloc (Nat.le_refl _) _⟩
    · have hd : decide (x ≤ n ∧ n ≤ y) = false := by simp [h1, h2]
      rw [hd]
      clear hk hd
      go_enter Try.func23, Try.ntmps23
      go_wp2
      go_ret
      exact ⟨rfl, (Below.refl _ _).alloc (Nat.le_refl _) _⟩
  · have hd : decide (x ≤ n ∧ n ≤ y) = false := by simp [h1]
    rw [hd]
    clear hk hd
    go_enter Try.func23, Try.ntmps23
    go_wp2
    go_ret
    exact ⟨rfl, (Below.refl _ _).alloc (Nat.le_refl _) _⟩

theorem has_any {lo up : Nat} {A : Option Addr} {n c : Nat} {l : List (Int × Int)} {x : Int} {w : World} (hr : Sl w lo up 2 A n c (rCells l)) (hup : up ≤ w.heap.size) (hn : n ≤ 1000) (hl : rWf l) :
    Calls Try.prog 19 #[.slice A n c, .int .i64 x] w fun e w' => e = .returned (.bool (rHas (rOf l) x)) ∧ Below w.heap.size w w' := by
  have H := Lib.hid (fun W (h : Sl W lo up 2 A n c (rCells l)) hu => of_any (w := W) h hu hn hl)
  have HR := Lib.hid hr
  clear hr hl
  obtain ⟨r, hr⟩ : ∃ r, r = rHas (rOf l) x := ⟨_, rfl⟩
  have HX := Lib.hid hr
  rw [← hr]
  clear hr
  go_enter Try.func19, Try.ntmps19
  go_wp2_with fail
  refine (H.out _ (HR.out.alloc hup _) (by simp; omega)).mono ?_
  rintro e w1 ⟨A1, n1, c1, rfl, hs, hb⟩
  have hbk : Blk w1 w.heap.size 3 #[.int .i64 x] := (Blk.new w 3 #[.int .i64 x] rfl).below hb (by simp)
  have hz := hb.size
  simp only [World.size_alloc] at hz
  have hn1 : n1 ≤ 16 := by have := hs.len; rw [rCells_length] at this; have := (rOf_desc l).2; omega
  have hC := contains_any (g := w.heap.size) hs (by omega) (by omega) 23 rfl (fun p => decide (p.1 ≤ x ∧ x ≤ p.2)) (fun i h W hW => has_fn (hbk.below hW (by omega)))
  rw [show (rOf l).any (fun p => decide (p.1 ≤ x ∧ x ≤ p.2)) = r from HX.out.symm] at hC
  have HC := Lib.hid hC
  clear hC
  have bb := ((Below.refl _ w).alloc (Nat.le_refl _) (.cells #[.int .i64 x] 3)).trans (hb.mono (by simp))
  clear hs hbk hb
  go_wp2_with fail
  refine HC.out.mono ?_
  rintro e w2 ⟨rfl, hb2⟩
  go_wp2
  go_ret
  exact ⟨rfl, bb.trans (hb2.mono (by omega))⟩
end Go.Proofs.Ytgebebdapfnmpaa
