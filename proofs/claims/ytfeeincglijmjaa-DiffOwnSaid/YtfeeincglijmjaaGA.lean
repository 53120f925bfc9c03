/- Screens: the words, and what may be; the walks of grid.within, grid.may and what it calls, the document's side and cells. -/
import Derived.Test.YtfeeincglijmjaaVA
import Derived.Test.YtfeeincglijmjaaLib4
import Derived.Deep.LoopGhost
import Derived.Deep.QuietTactic
import Derived.Deep.DeepCutAuto
import Derived.RegionTactic
import Derived.Outline
namespace Go.Proofs.Ytfeeincglijmjaa
open Go.RowKit
set_option linter.unusedVariables false
set_option linter.unusedSimpArgs false
attribute [local go_sem ↓] Go.wp_at_zero Go.wp_at_succ

theorem info64 : (Try.prog.info? 64).map (fun i => (i.zero, i.size, i.bytes)) = some (some (.agg #[.int .i64 0, .int .i64 0]), 2, 16) := by kernel_rfl

/-- Places' cells. -/
def cCells : List (Int × Int) → List Value
  | [] => []
  | p :: l => .int .i64 p.1 :: .int .i64 p.2 :: cCells l
theorem cCells_length : ∀ l : List (Int × Int), (cCells l).length = l.length * 2
  | [] => rfl
  | p :: l => by simp [cCells, cCells_length l, Nat.add_mul]
theorem cCells_append : ∀ l m : List (Int × Int), cCells (l ++ m) = cCells l ++ cCells m
  | [], m => rfl
  | p :: l, m => by simp [cCells, cCells_append l m]
theorem cCells_one : ∀ l : List (Int × Int), ∀ u ∈ cCells l, u.oneCell' = true
  | [], u, h => by simp [cCells] at h
  | p :: l, u, h => by
    simp only [cCells, List.mem_cons] at h
    rcases h with rfl | rfl | h
    · rfl
    · rfl
    · exact cCells_one l u h
theorem cCells_at : ∀ (l : List (Int × Int)) (j : Nat) (h : j < l.length), (cCells l)[j * 2]? = some (.int .i64 l[j].1) ∧ (cCells l)[j * 2 + 1]? = some (.int .i64 l[j].2)
  | [], j, h => absurd h (by simp)
  | p :: l, 0, h => by simp [cCells]
  | p :: l, j + 1, h => by
    have := cCells_at l j (by simpa using h)
    rw [show (j + 1) * 2 = j * 2 + 2 from by omega]
    simpa [cCells] using this
theorem cCells_take : ∀ (l : List (Int × Int)) (k : Nat), (cCells l).take (k * 2) = cCells (l.take k)
  | [], k => by simp [cCells]
  | p :: l, 0 => by simp [cCells]
  | p :: l, k + 1 => by
    rw [show (k + 1) * 2 = k * 2 + 2 from by omega, List.take_succ_cons]
    simp [cCells, cCells_take l k]
theorem cCells_drop : ∀ (l : List (Int × Int)) (k : Nat), (cCells l).drop (k * 2) = cCells (l.drop k)
  | [], k => by simp [cCells]
  | p :: l, 0 => by simp [cCells]
  | p :: l, k + 1 => by
    rw [show (k + 1) * 2 = k * 2 + 2 from by omega, List.drop_succ_cons]
    simp [cCells, cCells_drop l k]
theorem slc_cell {w : World} {lo up n c : Nat} {A : Option Addr} {l : List (Int × Int)} (hr : Sl w lo up 2 A n c (cCells l)) (hn : 0 < n) :
    ∃ g o, A = some ⟨g, o, none⟩ ∧ g < up ∧ ∀ j (h : j < l.length), w.cell? ⟨g, o + j * 2, none⟩ = some (.int .i64 l[j].1) ∧ w.cell? ⟨g, o + j * 2 + 1, none⟩ = some (.int .i64 l[j].2) := by
  obtain ⟨g, o, rfl, _, hb, hc⟩ := hr.at_ hn
  refine ⟨g, o, rfl, hb, fun j h => ?_⟩
  have hl := cCells_length l
  have := cCells_at l j h
  simp only [Nat.add_assoc]
  rw [hc (j * 2) (by omega), hc (j * 2 + 1) (by omega)]
  exact this
theorem slc_len {w : World} {lo up n c : Nat} {A : Option Addr} {l : List (Int × Int)} (hr : Sl w lo up 2 A n c (cCells l)) : n = l.length := by
  have := hr.len
  rw [cCells_length] at this
  omega

/-- A number from one to another. -/
def inB (n lo hi : Int) : Bool := decide (lo ≤ n ∧ n ≤ hi)
theorem inB_true {n lo hi : Int} : inB n lo hi = true ↔ lo ≤ n ∧ n ≤ hi := by simp [inB]
theorem inB_false {n lo hi : Int} : inB n lo hi = false ↔ ¬ (lo ≤ n ∧ n ≤ hi) := by simp only [inB, decide_eq_false_iff_not]
theorem within_any (n lo hi : Int) (w : World) : Calls Try.prog 41 #[.int .i64 n, .int .i64 lo, .int .i64 hi] w fun e w' => e = .returned (.bool (inB n lo hi)) ∧ w' = w := by
  by_cases h1 : lo ≤ n
  · by_cases h2 : n ≤ hi
    · rw [inB_true.2 ⟨h1, h2⟩]
      go_enter Try.func41, Try.ntmps41
      go_wp2
      go_ret
      exact ⟨rfl, rfl⟩
    · rw [inB_false.2 (fun h => h2 h.2)]
      go_enter Try.func41, Try.ntmps41
      go_wp2
      go_ret
      exact ⟨rfl, rfl⟩
  · rw [inB_false.2 (fun h => h1 h.1)]
    go_enter Try.func41, Try.ntmps41
    go_wp2
    go_ret
    exact ⟨rfl, rfl⟩
theorem side_any (n : Int) (w : World) : Calls Try.prog 92 #[.int .i64 n] w fun e w' => e = .returned (.bool (inB n 1 64)) ∧ w' = w := by
  by_cases h1 : 1 ≤ n
  · by_cases h2 : n ≤ 64
    · rw [inB_true.2 ⟨h1, h2⟩]
      go_enter Try.func92, Try.ntmps92
      go_wp2
      go_ret
      exact ⟨rfl, rfl⟩
    · rw [inB_false.2 (fun h => h2 h.2)]
      go_enter Try.func92, Try.ntmps92
      go_wp2
      go_ret
      exact ⟨rfl, rfl⟩
  · rw [inB_false.2 (fun h => h1 h.1)]
    go_enter Try.func92, Try.ntmps92
    go_wp2
    go_ret
    exact ⟨rfl, rfl⟩

/-- A place that may be. -/
def cOk (c : Int × Int) : Bool := inB c.1 32 1114111 && inB c.2 0 2047
/-- As many places, each of which may be. -/
def mayB (l : List (Int × Int)) (n : Int) : Bool := decide ((l.length : Int) = n) && l.all cOk

theorem badc_any (c : Int × Int) (w : World) : Calls Try.prog 81 #[.agg #[.int .i64 c.1, .int .i64 c.2]] w fun e w' => e = .returned (.bool (!cOk c)) ∧ Below w.heap.size w w' := by
  obtain ⟨x, y⟩ := c
  unfold cOk
  have H1 := Lib.hid (fun W => within_any x 32 1114111 W)
  have H2 := Lib.hid (fun W => within_any y 0 2047 W)
  cases h1 : inB x 32 1114111
  · rw [h1] at H1
    clear h1
    go_enter Try.func81, Try.ntmps81
    go_wp2_with fail
    refine (H1.out _).mono ?_
    rintro e w1 ⟨rfl, rfl⟩
    go_wp2
    go_ret
    exact ⟨rfl, (Below.refl _ _).alloc (Nat.le_refl _) _⟩
  · cases h2 : inB y 0 2047
    all_goals
      rw [h1] at H1
      rw [h2] at H2
      clear h1 h2
      go_enter Try.func81, Try.ntmps81
      go_wp2_with fail
      refine (H1.out _).mono ?_
      rintro e w1 ⟨rfl, rfl⟩
      go_wp2_with fail
      refine (H2.out _).mono ?_
      rintro e w1 ⟨rfl, rfl⟩
      go_wp2
      go_ret
      exact ⟨rfl, (Below.refl _ _).alloc (Nat.le_refl _) _⟩

/-- The place of the first of which something is so, or below 0. -/
def rIdx {α : Type} (p : α → Bool) (l : List α) : Int := if l.any p = true then (l.findIdx p : Int) else -1
theorem rIdx_at {α : Type} {p : α → Bool} {l : List α} {i : Nat} (h : i < l.length) (hp : p l[i] = true) (hno : ∀ j (hj : j < l.length), j < i → p l[j] = false) : rIdx p l = i := by
  unfold rIdx
  rw [if_pos (List.any_eq_true.2 ⟨l[i], List.getElem_mem h, hp⟩), (List.findIdx_eq h).2 ⟨hp, fun j hj => hno j (by omega) hj⟩]
theorem rIdx_none {α : Type} {p : α → Bool} {l : List α} (hno : ∀ j (hj : j < l.length), p l[j] = false) : rIdx p l = -1 ∧ l.any p = false := by
  have : l.any p = false := by
    rw [List.any_eq_false]
    intro x hx
    obtain ⟨j, hj, rfl⟩ := List.getElem_of_mem hx
    rw [hno j hj]
    simp
  exact ⟨by unfold rIdx; rw [this]; rfl, this⟩

set_option maxHeartbeats 4000000 in
theorem indexc_any {lo up : Nat} {A : Option Addr} {n c : Nat} {l : List (Int × Int)} {w : World} (hr : Sl w lo up 2 A n c (cCells l)) (hup : up ≤ w.heap.size) (hn : n ≤ 9223372036854775807) :
    Calls Try.prog 103 #[.slice A n c, .func (.func 81) #[] #[]] w fun e w' => e = .returned (.int .i64 (rIdx (fun c => !cOk c) l)) ∧ Below w.heap.size w w' := by
  have hlen := slc_len hr
  subst hlen
  have HR := Lib.hid hr
  clear hr
  go_enter Try.func103, Try.ntmps103
  go_wp2_with fail
  go_loopg [8] l.length (fun gh s8 wr => ∃ i : Nat, gh = l.length - i ∧ i ≤ l.length ∧ s8 = .int .i64 i ∧ Below w.heap.size w wr ∧ Hid (∀ j (h : j < l.length), j < i → (!cOk l[j]) = false))
  case atStart => exact ⟨0, by omega, by omega, rfl, Below.refl _ _, Lib.hid (fun _ _ h => absurd h (by omega))⟩
  case round =>
    obtain ⟨i, hg, hi, rfl, bb, hno⟩ := hrel
    have z0 := bb.size
    by_cases h : i < l.length
    · obtain ⟨b, o, rfl, hgu, hc⟩ := slc_cell (HR.out.below bb hup) (by omega)
      have k1 := (hc i h).1
      have k2 := (hc i h).2
      have a1 := addr_add b o (i * 2)
      have HC := Lib.hid (badc_any l[i] wr)
      cases hp : cOk l[i]
      · have hidx := rIdx_at (p := fun c => !cOk c) h (by simp [hp]) hno.out
        have Hidx := Lib.hid hidx
        rw [hp] at HC
        clear hno hp hc hidx
        generalize l[i].1 = x at *
        generalize l[i].2 = y at *
        go_wp2_with fail
        refine HC.out.mono ?_
        rintro e w1 ⟨rfl, hb⟩
        go_wp2
        go_ret
        exact ⟨by rw [Hidx.out]; rfl, bb.trans (hb.mono z0)⟩
      · have hno2 : ∀ j (h : j < l.length), j < i + 1 → (!cOk l[j]) = false := by
          intro j hj hj1
          by_cases hji : j < i
          · exact hno.out j hj hji
          · obtain rfl : j = i := by omega
            simp [hp]
        have Hno2 := Lib.hid hno2
        rw [hp] at HC
        clear hno2 hno hp hc
        generalize l[i].1 = x at *
        generalize l[i].2 = y at *
        go_wp2_with fail
        refine HC.out.mono ?_
        rintro e w1 ⟨rfl, hb⟩
        go_wp2
        go_roundg (l.length - (i + 1))
        case measure => omega
        case rel => exact ⟨i + 1, rfl, by omega, by simp, bb.trans (hb.mono z0), Hno2⟩
    · obtain rfl : i = l.length := by omega
      have hidx := (rIdx_none (p := fun c => !cOk c) (fun j hj => hno.out j hj hj)).1
      have Hidx := Lib.hid hidx
      clear hno hidx
      go_wp2
      go_ret
      exact ⟨by rw [Hidx.out]; rfl, bb⟩

theorem any_bad (l : List (Int × Int)) : l.any (fun c => !cOk c) = !l.all cOk := by
  rw [List.all_eq_not_any_not, Bool.not_not]
theorem containsc_any {lo up : Nat} {A : Option Addr} {n c : Nat} {l : List (Int × Int)} {w : World} (hr : Sl w lo up 2 A n c (cCells l)) (hup : up ≤ w.heap.size) (hn : n ≤ 9223372036854775807) :
    Calls Try.prog 80 #[.slice A n c, .func (.func 81) #[] #[]] w fun e w' => e = .returned (.bool (!l.all cOk)) ∧ Below w.heap.size w w' := by
  have H := indexc_any hr hup hn
  rw [← any_bad]
  cases h : l.any (fun c => !cOk c)
  · have e : rIdx (fun c => !cOk c) l = -1 := by unfold rIdx; rw [h]; rfl
    rw [e] at H
    clear h e
    go_enter Try.func80, Try.ntmps80
    go_wp2_with fail
    refine H.mono ?_
    rintro e w1 ⟨rfl, hb⟩
    go_wp2
    go_ret
    exact ⟨rfl, hb⟩
  · obtain ⟨k, hk⟩ : ∃ k : Nat, rIdx (fun c => !cOk c) l = k := ⟨_, by unfold rIdx; rw [h]; rfl⟩
    rw [hk] at H
    clear h hk
    have hk0 : (0 : Int) ≤ k := by omega
    go_enter Try.func80, Try.ntmps80
    go_wp2_with fail
    refine H.mono ?_
    rintro e w1 ⟨rfl, hb⟩
    go_wp2
    go_ret
    exact ⟨rfl, hb⟩
theorem may_any {lo up : Nat} {A : Option Addr} {n c : Nat} {l : List (Int × Int)} {m : Int} {w : World} (hr : Sl w lo up 2 A n c (cCells l)) (hup : up ≤ w.heap.size) (hn : n ≤ 9223372036854775807) :
    Calls Try.prog 42 #[.slice A n c, .int .i64 m] w fun e w' => e = .returned (.bool (mayB l m)) ∧ Below w.heap.size w w' := by
  have hlen := slc_len hr
  have H := Lib.hid (fun W (h : Sl W lo up 2 A n c (cCells l)) hu => containsc_any h hu hn)
  have HR := Lib.hid hr
  clear hr
  subst hlen
  unfold mayB
  by_cases hm : (l.length : Int) = m
  · subst hm
    have d0 : decide ((l.length : Int) = (l.length : Int)) = true := by simp
    rw [d0]
    clear d0
    cases h : l.all cOk
    all_goals
      rw [h] at H
      clear h
      go_enter Try.func42, Try.ntmps42
      go_wp2_with fail
      refine (H.out _ HR.out hup).mono ?_
      rintro e w1 ⟨rfl, hb⟩
      go_wp2
      go_ret
      exact ⟨rfl, hb⟩
  · have d0 : decide ((l.length : Int) = m) = false := by simpa using hm
    rw [d0]
    have d1 : ((l.length : Int) == m) = false := by simpa using hm
    clear d0 hm H HR
    go_enter Try.func42, Try.ntmps42
    go_wp2
    go_ret
    exact ⟨rfl, Below.refl _ _⟩
end Go.Proofs.Ytfeeincglijmjaa
