/- Texts of this seat, one behind the other. -/
import Derived.Test.YtfeeincglijmjaaZB1
import Derived.Laws.BitsLemmas
import Derived.RegionTactic
import Derived.ChangeAlike
import Derived.BigRegion
import Derived.Test.YtfeeincglijmjaaZB3
namespace Go.Proofs.Ytfeeincglijmjaa
/- The walk of varint.Get. -/
section
open Go.RowKit
set_option linter.unusedVariables false
set_option linter.unusedSimpArgs false
attribute [local go_sem ↓] Go.wp_at_zero Go.wp_at_succ

/-- What two numbers and an error are handed back as; nothing is written. -/
def RetN (w : World) (r : Int × Nat × Int) (e : Ending) (w' : World) : Prop := e = .returned (.tuple #[.int .i64 r.1, .int .i64 (r.2.1 : Int), .int .i64 r.2.2]) ∧ w' = w

/-- The size that a first byte tells. -/
def vTell (b : UInt8) : Nat := match b.toNat / 64 with | 0 => 1 | 1 => 2 | 2 => 4 | _ => 8
/-- The number that bytes are, behind what is known. -/
def vFold (a : Int) (l : List UInt8) : Int := l.foldl (fun a b => a * 256 + (b.toNat : Int)) a
/-- A number of a size, or an error. -/
def vIs (x : Int) (s : Nat) : Int × Nat × Int := if vSize x = s then (x, s, 0) else (0, 0, 10)
/-- Get. -/
def vGet : List UInt8 → Int × Nat × Int
  | [] => (0, 0, 10)
  | b :: r => if r.length + 1 < vTell b then (0, 0, 10) else vIs (vFold ((b.toNat : Int) % 64) (r.take (vTell b - 1))) (vTell b)

theorem or8 (a x : Int) (h0 : 0 ≤ a) (h1 : a < 36028797018963968) (h2 : 0 ≤ x) (h3 : x < 256) : bits .or .i64 (a * 256) x = a * 256 + x :=
  bits_join .i64 63 (by decide) (fun n h0 h1 => by rw [IntKind.wrap_i64]; omega) 8 (a * 256) x (by omega) (by omega) (by omega) h2 (by omega) (by omega)

/-- The cells of a slice of bytes. -/
theorem sl_cell {w : World} {lo up n c : Nat} {A : Option Addr} {l : List UInt8} (hr : Sl w lo up 1 A n c (byteCells l)) (hn : 0 < n) :
    ∃ g o, A = some ⟨g, o, none⟩ ∧ ∀ j (h : j < l.length), w.cell? ⟨g, o + j, none⟩ = some (.int .u8 (l[j].toNat : Int)) := by
  obtain ⟨g, o, rfl, _, _, hc⟩ := hr.at_ hn
  exact ⟨g, o, rfl, fun j h => by rw [hc j (by rw [byteCells_length]; exact h), byteCells_at h]⟩

theorem get_nil {A : Option Addr} {c : Nat} {w : World} : Calls Try.prog 85 #[.slice A 0 c] w (RetN w (0, 0, 10)) := by
  go_enter Try.func85, Try.ntmps85
  go_wp2
  go_ret3
  exact ⟨rfl, rfl⟩

theorem tell_cases (b : UInt8) : ((b.toNat : Int) / 64 = 0 ∧ vTell b = 1) ∨ ((b.toNat : Int) / 64 = 1 ∧ vTell b = 2) ∨ ((b.toNat : Int) / 64 = 2 ∧ vTell b = 4) ∨ ((b.toNat : Int) / 64 = 3 ∧ vTell b = 8) := by
  have hb := b.toNat_lt
  have h : b.toNat / 64 = 0 ∨ b.toNat / 64 = 1 ∨ b.toNat / 64 = 2 ∨ b.toNat / 64 = 3 := by omega
  unfold vTell
  rcases h with h | h | h | h <;> rw [h] <;> simp <;> omega

theorem get_short {lo up : Nat} {A : Option Addr} {n c : Nat} {b : UInt8} {r : List UInt8} {w : World} (hr : Sl w lo up 1 A n c (byteCells (b :: r))) (h : r.length + 1 < vTell b) :
    Calls Try.prog 85 #[.slice A n c] w (RetN w (0, 0, 10)) := by
  have hl : n = r.length + 1 := by have := hr.len; rw [byteCells_length] at this; simp at this; omega
  subst hl
  obtain ⟨g, o, rfl, hc⟩ := sl_cell hr (by omega)
  have c0 := hc 0 (by simp)
  have hlt := b.toNat_lt
  simp only [List.getElem_cons_zero, Nat.add_zero] at c0
  clear hc hr
  rcases tell_cases b with ⟨q, ht⟩ | ⟨q, ht⟩ | ⟨q, ht⟩ | ⟨q, ht⟩ <;> rw [ht] at h
  · omega
  all_goals
    clear ht
    go_enter Try.func85, Try.ntmps85
    go_wp2
    go_ret3
    exact ⟨rfl, rfl⟩

set_option maxHeartbeats 4000000 in
set_option maxRecDepth 100000 in
theorem get_1 {lo up : Nat} {A : Option Addr} {n c : Nat} {b : UInt8} {r : List UInt8} {w : World} (hr : Sl w lo up 1 A n c (byteCells (b :: r))) (q : (b.toNat : Int) / 64 = 0) :
    Calls Try.prog 85 #[.slice A n c] w (RetN w (vIs ((b.toNat : Int) % 64) 1)) := by
  have hl : n = r.length + 1 := by have := hr.len; rw [byteCells_length] at this; simp at this; omega
  subst hl
  obtain ⟨i0, hi0, hz0, hz1, hz2⟩ := info_parts info5
  obtain ⟨A3, hcut, hs3⟩ := cut_lh Try.underlying23 hi0 hz1 hr 1 0 1 1 rfl rfl (by omega)
  clear hs3
  obtain ⟨g, o, rfl, hc⟩ := sl_cell hr (by omega)
  have c0 : w.cell? ⟨g, o, none⟩ = some (.int .u8 (b.toNat : Int)) := hc 0 (by simp)
  clear hc hr hi0 hz0 hz1 hz2
  have hb := b.toNat_lt
  have hand := u8_and63 (b.toNat : Int) (by omega) (by omega)
  have sz := fun W => size_any (x := (b.toNat : Int) % 64) (w := W) (by omega)
  have Hs := Lib.hid sz
  clear sz
  unfold vIs
  by_cases hv : vSize ((b.toNat : Int) % 64) = 1
  · rw [if_pos hv]
    rw [hv] at Hs
    clear hv
    go_enter Try.func85, Try.ntmps85
    go_wp2_with fail
    refine wp_loop_rounds 2 ?_
    repeat any_goals (rw [rounds_succ]; go_wp2_with fail)
    refine (Hs.out _).mono ?_
    rintro e w1 ⟨rfl, rfl⟩
    go_wp2
    go_ret3
    exact ⟨rfl, rfl⟩
  · rw [if_neg hv]
    have hv2 : ((vSize ((b.toNat : Int) % 64) : Int) = 1) = False := by simp only [eq_iff_iff, iff_false]; omega
    generalize vSize ((b.toNat : Int) % 64) = s at *
    go_enter Try.func85, Try.ntmps85
    go_wp2_with fail
    refine wp_loop_rounds 2 ?_
    repeat any_goals (rw [rounds_succ]; go_wp2_with fail)
    refine (Hs.out _).mono ?_
    rintro e w1 ⟨rfl, rfl⟩
    go_wp2
    go_ret3
    exact ⟨rfl, rfl⟩

set_option maxHeartbeats 4000000 in
set_option maxRecDepth 100000 in
theorem get_2 {lo up : Nat} {A : Option Addr} {n c : Nat} {b x1 : UInt8} {r : List UInt8} {w : World} (hr : Sl w lo up 1 A n c (byteCells (b :: x1 :: r))) (q : (b.toNat : Int) / 64 = 1) :
    Calls Try.prog 85 #[.slice A n c] w (RetN w (vIs (((b.toNat : Int) % 64) * 256 + (x1.toNat : Int)) 2)) := by
  have hl : n = r.length + 2 := by have := hr.len; rw [byteCells_length] at this; simp at this; omega
  subst hl
  obtain ⟨i0, hi0, hz0, hz1, hz2⟩ := info_parts info5
  obtain ⟨A3, hcut, hs3⟩ := cut_lh Try.underlying23 hi0 hz1 hr 1 1 1 2 rfl rfl (by omega)
  rw [show (byteCells (b :: x1 :: r)).drop (1 * 1) = byteCells (x1 :: r) from rfl, show (byteCells (x1 :: r)).take (1 * 1) = byteCells [x1] from by simp [byteCells]] at hs3
  obtain ⟨g3, o3, rfl, hc3⟩ := sl_cell hs3 (by omega)
  have d0 : w.cell? ⟨g3, o3, none⟩ = some (.int .u8 (x1.toNat : Int)) := hc3 0 (by simp)
  clear hc3 hs3
  obtain ⟨g, o, rfl, hc⟩ := sl_cell hr (by omega)
  have c0 : w.cell? ⟨g, o, none⟩ = some (.int .u8 (b.toNat : Int)) := hc 0 (by simp)
  clear hc hr hi0 hz0 hz1 hz2
  have hb := b.toNat_lt
  have hx1 := x1.toNat_lt
  have hand := u8_and63 (b.toNat : Int) (by omega) (by omega)
  have ho1 := or8 ((b.toNat : Int) % 64) (x1.toNat : Int) (by omega) (by omega) (by omega) (by omega)
  have sz := fun W => size_any (x := ((b.toNat : Int) % 64) * 256 + (x1.toNat : Int)) (w := W) (by omega)
  have Hs := Lib.hid sz
  clear sz
  unfold vIs
  by_cases hv : vSize (((b.toNat : Int) % 64) * 256 + (x1.toNat : Int)) = 2
  · rw [if_pos hv]
    rw [hv] at Hs
    clear hv
    go_enter Try.func85, Try.ntmps85
    go_wp2_with fail
    refine wp_loop_rounds 3 ?_
    repeat any_goals (rw [rounds_succ]; go_wp2_with fail)
    refine (Hs.out _).mono ?_
    rintro e w1 ⟨rfl, rfl⟩
    go_wp2
    go_ret3
    exact ⟨rfl, rfl⟩
  · rw [if_neg hv]
    have hv2 : ((vSize (((b.toNat : Int) % 64) * 256 + (x1.toNat : Int)) : Int) = 2) = False := by simp only [eq_iff_iff, iff_false]; omega
    generalize vSize (((b.toNat : Int) % 64) * 256 + (x1.toNat : Int)) = s at *
    go_enter Try.func85, Try.ntmps85
    go_wp2_with fail
    refine wp_loop_rounds 3 ?_
    repeat any_goals (rw [rounds_succ]; go_wp2_with fail)
    refine (Hs.out _).mono ?_
    rintro e w1 ⟨rfl, rfl⟩
    go_wp2
    go_ret3
    exact ⟨rfl, rfl⟩

set_option maxHeartbeats 4000000 in
set_option maxRecDepth 100000 in
theorem get_4 {lo up : Nat} {A : Option Addr} {n c : Nat} {b x1 x2 x3 : UInt8} {r : List UInt8} {w : World} (hr : Sl w lo up 1 A n c (byteCells (b :: x1 :: x2 :: x3 :: r))) (q : (b.toNat : Int) / 64 = 2) :
    Calls Try.prog 85 #[.slice A n c] w (RetN w (vIs (((((b.toNat : Int) % 64) * 256 + (x1.toNat : Int)) * 256 + (x2.toNat : Int)) * 256 + (x3.toNat : Int)) 4)) := by
  have hl : n = r.length + 4 := by have := hr.len; rw [byteCells_length] at this; simp at this; omega
  subst hl
  obtain ⟨i0, hi0, hz0, hz1, hz2⟩ := info_parts info5
  obtain ⟨A3, hcut, hs3⟩ := cut_lh Try.underlying23 hi0 hz1 hr 1 3 1 4 rfl rfl (by omega)
  rw [show (byteCells (b :: x1 :: x2 :: x3 :: r)).drop (1 * 1) = byteCells (x1 :: x2 :: x3 :: r) from rfl, show (byteCells (x1 :: x2 :: x3 :: r)).take (3 * 1) = byteCells [x1, x2, x3] from by simp [byteCells]] at hs3
  obtain ⟨g3, o3, rfl, hc3⟩ := sl_cell hs3 (by omega)
  have d0 : w.cell? ⟨g3, o3, none⟩ = some (.int .u8 (x1.toNat : Int)) := hc3 0 (by simp)
  have d1 : w.cell? ⟨g3, o3 + 1, none⟩ = some (.int .u8 (x2.toNat : Int)) := hc3 1 (by simp)
  have d2 : w.cell? ⟨g3, o3 + 2, none⟩ = some (.int .u8 (x3.toNat : Int)) := hc3 2 (by simp)
  clear hc3 hs3
  obtain ⟨g, o, rfl, hc⟩ := sl_cell hr (by omega)
  have c0 : w.cell? ⟨g, o, none⟩ = some (.int .u8 (b.toNat : Int)) := hc 0 (by simp)
  clear hc hr hi0 hz0 hz1 hz2
  have hb := b.toNat_lt
  have hx1 := x1.toNat_lt
  have hx2 := x2.toNat_lt
  have hx3 := x3.toNat_lt
  have hand := u8_and63 (b.toNat : Int) (by omega) (by omega)
  have ho1 := or8 ((b.toNat : Int) % 64) (x1.toNat : Int) (by omega) (by omega) (by omega) (by omega)
  have ho2 := or8 (((b.toNat : Int) % 64) * 256 + (x1.toNat : Int)) (x2.toNat : Int) (by omega) (by omega) (by omega) (by omega)
  have ho3 := or8 ((((b.toNat : Int) % 64) * 256 + (x1.toNat : Int)) * 256 + (x2.toNat : Int)) (x3.toNat : Int) (by omega) (by omega) (by omega) (by omega)
  have sz := fun W => size_any (x := ((((b.toNat : Int) % 64) * 256 + (x1.toNat : Int)) * 256 + (x2.toNat : Int)) * 256 + (x3.toNat : Int)) (w := W) (by omega)
  have Hs := Lib.hid sz
  clear sz
  unfold vIs
  by_cases hv : vSize (((((b.toNat : Int) % 64) * 256 + (x1.toNat : Int)) * 256 + (x2.toNat : Int)) * 256 + (x3.toNat : Int)) = 4
  · rw [if_pos hv]
    rw [hv] at Hs
    clear hv
    go_enter Try.func85, Try.ntmps85
    go_wp2_with fail
    refine wp_loop_rounds 5 ?_
    repeat any_goals (rw [rounds_succ]; go_wp2_with fail)
    refine (Hs.out _).mono ?_
    rintro e w1 ⟨rfl, rfl⟩
    go_wp2
    go_ret3
    exact ⟨rfl, rfl⟩
  · rw [if_neg hv]
    have hv2 : ((vSize (((((b.toNat : Int) % 64) * 256 + (x1.toNat : Int)) * 256 + (x2.toNat : Int)) * 256 + (x3.toNat : Int)) : Int) = 4) = False := by simp only [eq_iff_iff, iff_false]; omega
    generalize vSize (((((b.toNat : Int) % 64) * 256 + (x1.toNat : Int)) * 256 + (x2.toNat : Int)) * 256 + (x3.toNat : Int)) = s at *
    go_enter Try.func85, Try.ntmps85
    go_wp2_with fail
    refine wp_loop_rounds 5 ?_
    repeat any_goals (rw [rounds_succ]; go_wp2_with fail)
    refine (Hs.out _).mono ?_
    rintro e w1 ⟨rfl, rfl⟩
    go_wp2
    go_ret3
    exact ⟨rfl, rfl⟩

set_option maxHeartbeats 4000000 in
set_option maxRecDepth 100000 in
theorem get_8 {lo up : Nat} {A : Option Addr} {n c : Nat} {b x1 x2 x3 x4 x5 x6 x7 : UInt8} {r : List UInt8} {w : World} (hr : Sl w lo up 1 A n c (byteCells (b :: x1 :: x2 :: x3 :: x4 :: x5 :: x6 :: x7 :: r))) (q : (b.toNat : Int) / 64 = 3) :
    Calls Try.prog 85 #[.slice A n c] w (RetN w (vIs (((((((((b.toNat : Int) % 64) * 256 + (x1.toNat : Int)) * 256 + (x2.toNat : Int)) * 256 + (x3.toNat : Int)) * 256 + (x4.toNat : Int)) * 256 + (x5.toNat : Int)) * 256 + (x6.toNat : Int)) * 256 + (x7.toNat : Int)) 8)) := by
  have hl : n = r.length + 8 := by have := hr.len; rw [byteCells_length] at this; simp at this; omega
  subst hl
  obtain ⟨i0, hi0, hz0, hz1, hz2⟩ := info_parts info5
  obtain ⟨A3, hcut, hs3⟩ := cut_lh Try.underlying23 hi0 hz1 hr 1 7 1 8 rfl rfl (by omega)
  rw [show (byteCells (b :: x1 :: x2 :: x3 :: x4 :: x5 :: x6 :: x7 :: r)).drop (1 * 1) = byteCells (x1 :: x2 :: x3 :: x4 :: x5 :: x6 :: x7 :: r) from rfl, show (byteCells (x1 :: x2 :: x3 :: x4 :: x5 :: x6 :: x7 :: r)).take (7 * 1) = byteCells [x1, x2, x3, x4, x5, x6, x7] from by simp [byteCells]] at hs3
  obtain ⟨g3, o3, rfl, hc3⟩ := sl_cell hs3 (by omega)
  have d0 : w.cell? ⟨g3, o3, none⟩ = some (.int .u8 (x1.toNat : Int)) := hc3 0 (by simp)
  have d1 : w.cell? ⟨g3, o3 + 1, none⟩ = some (.int .u8 (x2.toNat : Int)) := hc3 1 (by simp)
  have d2 : w.cell? ⟨g3, o3 + 2, none⟩ = some (.int .u8 (x3.toNat : Int)) := hc3 2 (by simp)
  have d3 : w.cell? ⟨g3, o3 + 3, none⟩ = some (.int .u8 (x4.toNat : Int)) := hc3 3 (by simp)
  have d4 : w.cell? ⟨g3, o3 + 4, none⟩ = some (.int .u8 (x5.toNat : Int)) := hc3 4 (by simp)
  have d5 : w.cell? ⟨g3, o3 + 5, none⟩ = some (.int .u8 (x6.toNat : Int)) := hc3 5 (by simp)
  have d6 : w.cell? ⟨g3, o3 + 6, none⟩ = some (.int .u8 (x7.toNat : Int)) := hc3 6 (by simp)
  clear hc3 hs3
  obtain ⟨g, o, rfl, hc⟩ := sl_cell hr (by omega)
  have c0 : w.cell? ⟨g, o, none⟩ = some (.int .u8 (b.toNat : Int)) := hc 0 (by simp)
  clear hc hr hi0 hz0 hz1 hz2
  have hb := b.toNat_lt
  have hx1 := x1.toNat_lt
  have hx2 := x2.toNat_lt
  have hx3 := x3.toNat_lt
  have hx4 := x4.toNat_lt
  have hx5 := x5.toNat_lt
  have hx6 := x6.toNat_lt
  have hx7 := x7.toNat_lt
  have hand := u8_and63 (b.toNat : Int) (by omega) (by omega)
  have ho1 := or8 ((b.toNat : Int) % 64) (x1.toNat : Int) (by omega) (by omega) (by omega) (by omega)
  have ho2 := or8 (((b.toNat : Int) % 64) * 256 + (x1.toNat : Int)) (x2.toNat : Int) (by omega) (by omega) (by omega) (by omega)
  have ho3 := or8 ((((b.toNat : Int) % 64) * 256 + (x1.toNat : Int)) * 256 + (x2.toNat : Int)) (x3.toNat : Int) (by omega) (by omega) (by omega) (by omega)
  have ho4 := or8 (((((b.toNat : Int) % 64) * 256 + (x1.toNat : Int)) * 256 + (x2.toNat : Int)) * 256 + (x3.toNat : Int)) (x4.toNat : Int) (by omega) (by omega) (by omega) (by omega)
  have ho5 := or8 ((((((b.toNat : Int) % 64) * 256 + (x1.toNat : Int)) * 256 + (x2.toNat : Int)) * 256 + (x3.toNat : Int)) * 256 + (x4.toNat : Int)) (x5.toNat : Int) (by omega) (by omega) (by omega) (by omega)
  have ho6 := or8 (((((((b.toNat : Int) % 64) * 256 + (x1.toNat : Int)) * 256 + (x2.toNat : Int)) * 256 + (x3.toNat : Int)) * 256 + (x4.toNat : Int)) * 256 + (x5.toNat : Int)) (x6.toNat : Int) (by omega) (by omega) (by omega) (by omega)
  have ho7 := or8 ((((((((b.toNat : Int) % 64) * 256 + (x1.toNat : Int)) * 256 + (x2.toNat : Int)) * 256 + (x3.toNat : Int)) * 256 + (x4.toNat : Int)) * 256 + (x5.toNat : Int)) * 256 + (x6.toNat : Int)) (x7.toNat : Int) (by omega) (by omega) (by omega) (by omega)
  have sz := fun W => size_any (x := ((((((((b.toNat : Int) % 64) * 256 + (x1.toNat : Int)) * 256 + (x2.toNat : Int)) * 256 + (x3.toNat : Int)) * 256 + (x4.toNat : Int)) * 256 + (x5.toNat : Int)) * 256 + (x6.toNat : Int)) * 256 + (x7.toNat : Int)) (w := W) (by omega)
  have Hs := Lib.hid sz
  clear sz
  unfold vIs
  by_cases hv : vSize (((((((((b.toNat : Int) % 64) * 256 + (x1.toNat : Int)) * 256 + (x2.toNat : Int)) * 256 + (x3.toNat : Int)) * 256 + (x4.toNat : Int)) * 256 + (x5.toNat : Int)) * 256 + (x6.toNat : Int)) * 256 + (x7.toNat : Int)) = 8
  · rw [if_pos hv]
    rw [hv] at Hs
    clear hv
    go_enter Try.func85, Try.ntmps85
    go_wp2_with fail
    refine wp_loop_rounds 9 ?_
    repeat any_goals (rw [rounds_succ]; go_wp2_with fail)
    refine (Hs.out _).mono ?_
    rintro e w1 ⟨rfl, rfl⟩
    go_wp2
    go_ret3
    exact ⟨rfl, rfl⟩
  · rw [if_neg hv]
    have hv2 : ((vSize (((((((((b.toNat : Int) % 64) * 256 + (x1.toNat : Int)) * 256 + (x2.toNat : Int)) * 256 + (x3.toNat : Int)) * 256 + (x4.toNat : Int)) * 256 + (x5.toNat : Int)) * 256 + (x6.toNat : Int)) * 256 + (x7.toNat : Int)) : Int) = 8) = False := by simp only [eq_iff_iff, iff_false]; omega
    generalize vSize (((((((((b.toNat : Int) % 64) * 256 + (x1.toNat : Int)) * 256 + (x2.toNat : Int)) * 256 + (x3.toNat : Int)) * 256 + (x4.toNat : Int)) * 256 + (x5.toNat : Int)) * 256 + (x6.toNat : Int)) * 256 + (x7.toNat : Int)) = s at *
    go_enter Try.func85, Try.ntmps85
    go_wp2_with fail
    refine wp_loop_rounds 9 ?_
    repeat any_goals (rw [rounds_succ]; go_wp2_with fail)
    refine (Hs.out _).mono ?_
    rintro e w1 ⟨rfl, rfl⟩
    go_wp2
    go_ret3
    exact ⟨rfl, rfl⟩

theorem vGet_cons (b : UInt8) (r : List UInt8) : vGet (b :: r) = if r.length + 1 < vTell b then (0, 0, 10) else vIs (vFold ((b.toNat : Int) % 64) (r.take (vTell b - 1))) (vTell b) := rfl

theorem get_any {lo up : Nat} {A : Option Addr} {n c : Nat} {l : List UInt8} {w : World} (hr : Sl w lo up 1 A n c (byteCells l)) : Calls Try.prog 85 #[.slice A n c] w (RetN w (vGet l)) := by
  have hl : n = l.length := by have := hr.len; rw [byteCells_length] at this; omega
  rcases l with _ | ⟨b, r⟩
  · obtain rfl : n = 0 := hl
    exact get_nil
  rw [vGet_cons]
  by_cases h : r.length + 1 < vTell b
  · rw [if_pos h]; exact get_short hr h
  rw [if_neg h]
  rcases tell_cases b with ⟨q, ht⟩ | ⟨q, ht⟩ | ⟨q, ht⟩ | ⟨q, ht⟩ <;> rw [ht] at h ⊢
  · exact get_1 hr q
  · rcases r with _ | ⟨x1, r⟩
    · simp at h
    exact get_2 hr q
  · rcases r with _ | ⟨x1, _ | ⟨x2, _ | ⟨x3, r⟩⟩⟩
    any_goals simp at h
    exact get_4 hr q
  · rcases r with _ | ⟨x1, _ | ⟨x2, _ | ⟨x3, _ | ⟨x4, _ | ⟨x5, _ | ⟨x6, _ | ⟨x7, r⟩⟩⟩⟩⟩⟩⟩
    any_goals simp at h
    exact get_8 hr q
end

/- The walk of the document's Get. -/
section
open Go.RowKit
set_option linter.unusedVariables false
set_option linter.unusedSimpArgs false
attribute [local go_sem ↓] Go.wp_at_zero Go.wp_at_succ

theorem rget_nil {A : Option Addr} {c : Nat} {w : World} : Calls Try.prog 100 #[.slice A 0 c] w (RetN w (0, 0, 10)) := by
  go_enter Try.func100, Try.ntmps100
  go_wp2
  go_ret3
  exact ⟨rfl, rfl⟩

theorem rget_short {lo up : Nat} {A : Option Addr} {n c : Nat} {b : UInt8} {r : List UInt8} {w : World} (hr : Sl w lo up 1 A n c (byteCells (b :: r))) (h : r.length + 1 < vTell b) :
    Calls Try.prog 100 #[.slice A n c] w (RetN w (0, 0, 10)) := by
  have hl : n = r.length + 1 := by have := hr.len; rw [byteCells_length] at this; simp at this; omega
  subst hl
  obtain ⟨g, o, rfl, hc⟩ := sl_cell hr (by omega)
  have c0 := hc 0 (by simp)
  have hlt := b.toNat_lt
  simp only [List.getElem_cons_zero, Nat.add_zero] at c0
  clear hc hr
  rcases tell_cases b with ⟨q, ht⟩ | ⟨q, ht⟩ | ⟨q, ht⟩ | ⟨q, ht⟩ <;> rw [ht] at h
  · omega
  all_goals
    clear ht
    have q2 : Int.tdiv (b.toNat : Int) 64 = (b.toNat : Int) / 64 := Int.tdiv_eq_ediv_of_nonneg (by omega)
    rw [q] at q2
    go_enter Try.func100, Try.ntmps100
    go_wp2
    go_rounds 4
    go_ret3
    exact ⟨rfl, rfl⟩

set_option maxHeartbeats 4000000 in
set_option maxRecDepth 100000 in
theorem rget_1 {lo up : Nat} {A : Option Addr} {n c : Nat} {b : UInt8} {r : List UInt8} {w : World} (hr : Sl w lo up 1 A n c (byteCells (b :: r))) (q : (b.toNat : Int) / 64 = 0) :
    Calls Try.prog 100 #[.slice A n c] w (RetN w (vIs ((b.toNat : Int) % 64) 1)) := by
  have hl : n = r.length + 1 := by have := hr.len; rw [byteCells_length] at this; simp at this; omega
  subst hl
  obtain ⟨g, o, rfl, hc⟩ := sl_cell hr (by omega)
  have c0 : w.cell? ⟨g, o, none⟩ = some (.int .u8 (b.toNat : Int)) := hc 0 (by simp)
  clear hc hr
  have hb := b.toNat_lt
  have q2 : Int.tdiv (b.toNat : Int) 64 = (b.toNat : Int) / 64 := Int.tdiv_eq_ediv_of_nonneg (by omega)
  have q3 : Int.tmod (b.toNat : Int) 64 = (b.toNat : Int) % 64 := Int.tmod_eq_emod_of_nonneg (by omega)
  rw [q] at q2
  have sz := fun W => rsize_any (x := (b.toNat : Int) % 64) (w := W)
  have Hs := Lib.hid sz
  clear sz
  unfold vIs
  by_cases hv : vSize ((b.toNat : Int) % 64) = 1
  · rw [if_pos hv]
    rw [hv] at Hs
    clear hv
    go_enter Try.func100, Try.ntmps100
    go_wp2_with fail
    refine wp_loop_rounds 5 ?_
    repeat any_goals (rw [rounds_succ]; go_wp2_with fail)
    refine wp_loop_rounds 2 ?_
    repeat any_goals (rw [rounds_succ]; go_wp2_with fail)
    refine (Hs.out _).mono ?_
    rintro e w1 ⟨rfl, rfl⟩
    go_wp2
    go_ret3
    exact ⟨rfl, rfl⟩
  · rw [if_neg hv]
    have hv2 : ((vSize ((b.toNat : Int) % 64) : Int) = 1) = False := by simp only [eq_iff_iff, iff_false]; omega
    generalize vSize ((b.toNat : Int) % 64) = s at *
    go_enter Try.func100, Try.ntmps100
    go_wp2_with fail
    refine wp_loop_rounds 5 ?_
    repeat any_goals (rw [rounds_succ]; go_wp2_with fail)
    refine wp_loop_rounds 2 ?_
    repeat any_goals (rw [rounds_succ]; go_wp2_with fail)
    refine (Hs.out _).mono ?_
    rintro e w1 ⟨rfl, rfl⟩
    go_wp2
    go_ret3
    exact ⟨rfl, rfl⟩

set_option maxHeartbeats 4000000 in
set_option maxRecDepth 100000 in
theorem rget_2 {lo up : Nat} {A : Option Addr} {n c : Nat} {b x1 : UInt8} {r : List UInt8} {w : World} (hr : Sl w lo up 1 A n c (byteCells (b :: x1 :: r))) (q : (b.toNat : Int) / 64 = 1) :
    Calls Try.prog 100 #[.slice A n c] w (RetN w (vIs (((b.toNat : Int) % 64) * 256 + (x1.toNat : Int)) 2)) := by
  have hl : n = r.length + 2 := by have := hr.len; rw [byteCells_length] at this; simp at this; omega
  subst hl
  obtain ⟨g, o, rfl, hc⟩ := sl_cell hr (by omega)
  have c0 : w.cell? ⟨g, o, none⟩ = some (.int .u8 (b.toNat : Int)) := hc 0 (by simp)
  have c1 : w.cell? ⟨g, o + 1, none⟩ = some (.int .u8 (x1.toNat : Int)) := hc 1 (by simp)
  clear hc hr
  have hb := b.toNat_lt
  have hx1 := x1.toNat_lt
  rw [show ((b.toNat : Int) % 64) * 256 + (x1.toNat : Int) = 256 * ((b.toNat : Int) % 64) + (x1.toNat : Int) from by omega]
  have q2 : Int.tdiv (b.toNat : Int) 64 = (b.toNat : Int) / 64 := Int.tdiv_eq_ediv_of_nonneg (by omega)
  have q3 : Int.tmod (b.toNat : Int) 64 = (b.toNat : Int) % 64 := Int.tmod_eq_emod_of_nonneg (by omega)
  rw [q] at q2
  have sz := fun W => rsize_any (x := 256 * ((b.toNat : Int) % 64) + (x1.toNat : Int)) (w := W)
  have Hs := Lib.hid sz
  clear sz
  unfold vIs
  by_cases hv : vSize (256 * ((b.toNat : Int) % 64) + (x1.toNat : Int)) = 2
  · rw [if_pos hv]
    rw [hv] at Hs
    clear hv
    go_enter Try.func100, Try.ntmps100
    go_wp2_with fail
    refine wp_loop_rounds 5 ?_
    repeat any_goals (rw [rounds_succ]; go_wp2_with fail)
    refine wp_loop_rounds 3 ?_
    repeat any_goals (rw [rounds_succ]; go_wp2_with fail)
    refine (Hs.out _).mono ?_
    rintro e w1 ⟨rfl, rfl⟩
    go_wp2
    go_ret3
    exact ⟨rfl, rfl⟩
  · rw [if_neg hv]
    have hv2 : ((vSize (256 * ((b.toNat : Int) % 64) + (x1.toNat : Int)) : Int) = 2) = False := by simp only [eq_iff_iff, iff_false]; omega
    generalize vSize (256 * ((b.toNat : Int) % 64) + (x1.toNat : Int)) = s at *
    go_enter Try.func100, Try.ntmps100
    go_wp2_with fail
    refine wp_loop_rounds 5 ?_
    repeat any_goals (rw [rounds_succ]; go_wp2_with fail)
    refine wp_loop_rounds 3 ?_
    repeat any_goals (rw [rounds_succ]; go_wp2_with fail)
    refine (Hs.out _).mono ?_
    rintro e w1 ⟨rfl, rfl⟩
    go_wp2
    go_ret3
    exact ⟨rfl, rfl⟩

set_option maxHeartbeats 4000000 in
set_option maxRecDepth 100000 in
theorem rget_4 {lo up : Nat} {A : Option Addr} {n c : Nat} {b x1 x2 x3 : UInt8} {r : List UInt8} {w : World} (hr : Sl w lo up 1 A n c (byteCells (b :: x1 :: x2 :: x3 :: r))) (q : (b.toNat : Int) / 64 = 2) :
    Calls Try.prog 100 #[.slice A n c] w (RetN w (vIs (((((b.toNat : Int) % 64) * 256 + (x1.toNat : Int)) * 256 + (x2.toNat : Int)) * 256 + (x3.toNat : Int)) 4)) := by
  have hl : n = r.length + 4 := by have := hr.len; rw [byteCells_length] at this; simp at this; omega
  subst hl
  obtain ⟨g, o, rfl, hc⟩ := sl_cell hr (by omega)
  have c0 : w.cell? ⟨g, o, none⟩ = some (.int .u8 (b.toNat : Int)) := hc 0 (by simp)
  have c1 : w.cell? ⟨g, o + 1, none⟩ = some (.int .u8 (x1.toNat : Int)) := hc 1 (by simp)
  have c2 : w.cell? ⟨g, o + 2, none⟩ = some (.int .u8 (x2.toNat : Int)) := hc 2 (by simp)
  have c3 : w.cell? ⟨g, o + 3, none⟩ = some (.int .u8 (x3.toNat : Int)) := hc 3 (by simp)
  clear hc hr
  have hb := b.toNat_lt
  have hx1 := x1.toNat_lt
  have hx2 := x2.toNat_lt
  have hx3 := x3.toNat_lt
  rw [show ((((b.toNat : Int) % 64) * 256 + (x1.toNat : Int)) * 256 + (x2.toNat : Int)) * 256 + (x3.toNat : Int) = 256 * (256 * (256 * ((b.toNat : Int) % 64) + (x1.toNat : Int)) + (x2.toNat : Int)) + (x3.toNat : Int) from by omega]
  have q2 : Int.tdiv (b.toNat : Int) 64 = (b.toNat : Int) / 64 := Int.tdiv_eq_ediv_of_nonneg (by omega)
  have q3 : Int.tmod (b.toNat : Int) 64 = (b.toNat : Int) % 64 := Int.tmod_eq_emod_of_nonneg (by omega)
  rw [q] at q2
  have sz := fun W => rsize_any (x := 256 * (256 * (256 * ((b.toNat : Int) % 64) + (x1.toNat : Int)) + (x2.toNat : Int)) + (x3.toNat : Int)) (w := W)
  have Hs := Lib.hid sz
  clear sz
  unfold vIs
  by_cases hv : vSize (256 * (256 * (256 * ((b.toNat : Int) % 64) + (x1.toNat : Int)) + (x2.toNat : Int)) + (x3.toNat : Int)) = 4
  · rw [if_pos hv]
    rw [hv] at Hs
    clear hv
    go_enter Try.func100, Try.ntmps100
    go_wp2_with fail
    refine wp_loop_rounds 5 ?_
    repeat any_goals (rw [rounds_succ]; go_wp2_with fail)
    refine wp_loop_rounds 5 ?_
    repeat any_goals (rw [rounds_succ]; go_wp2_with fail)
    refine (Hs.out _).mono ?_
    rintro e w1 ⟨rfl, rfl⟩
    go_wp2
    go_ret3
    exact ⟨rfl, rfl⟩
  · rw [if_neg hv]
    have hv2 : ((vSize (256 * (256 * (256 * ((b.toNat : Int) % 64) + (x1.toNat : Int)) + (x2.toNat : Int)) + (x3.toNat : Int)) : Int) = 4) = False := by simp only [eq_iff_iff, iff_false]; omega
    generalize vSize (256 * (256 * (256 * ((b.toNat : Int) % 64) + (x1.toNat : Int)) + (x2.toNat : Int)) + (x3.toNat : Int)) = s at *
    go_enter Try.func100, Try.ntmps100
    go_wp2_with fail
    refine wp_loop_rounds 5 ?_
    repeat any_goals (rw [rounds_succ]; go_wp2_with fail)
    refine wp_loop_rounds 5 ?_
    repeat any_goals (rw [rounds_succ]; go_wp2_with fail)
    refine (Hs.out _).mono ?_
    rintro e w1 ⟨rfl, rfl⟩
    go_wp2
    go_ret3
    exact ⟨rfl, rfl⟩

set_option maxHeartbeats 4000000 in
set_option maxRecDepth 100000 in
theorem rget_8 {lo up : Nat} {A : Option Addr} {n c : Nat} {b x1 x2 x3 x4 x5 x6 x7 : UInt8} {r : List UInt8} {w : World} (hr : Sl w lo up 1 A n c (byteCells (b :: x1 :: x2 :: x3 :: x4 :: x5 :: x6 :: x7 :: r))) (q : (b.toNat : Int) / 64 = 3) :
    Calls Try.prog 100 #[.slice A n c] w (RetN w (vIs (((((((((b.toNat : Int) % 64) * 256 + (x1.toNat : Int)) * 256 + (x2.toNat : Int)) * 256 + (x3.toNat : Int)) * 256 + (x4.toNat : Int)) * 256 + (x5.toNat : Int)) * 256 + (x6.toNat : Int)) * 256 + (x7.toNat : Int)) 8)) := by
  have hl : n = r.length + 8 := by have := hr.len; rw [byteCells_length] at this; simp at this; omega
  subst hl
  obtain ⟨g, o, rfl, hc⟩ := sl_cell hr (by omega)
  have c0 : w.cell? ⟨g, o, none⟩ = some (.int .u8 (b.toNat : Int)) := hc 0 (by simp)
  have c1 : w.cell? ⟨g, o + 1, none⟩ = some (.int .u8 (x1.toNat : Int)) := hc 1 (by simp)
  have c2 : w.cell? ⟨g, o + 2, none⟩ = some (.int .u8 (x2.toNat : Int)) := hc 2 (by simp)
  have c3 : w.cell? ⟨g, o + 3, none⟩ = some (.int .u8 (x3.toNat : Int)) := hc 3 (by simp)
  have c4 : w.cell? ⟨g, o + 4, none⟩ = some (.int .u8 (x4.toNat : Int)) := hc 4 (by simp)
  have c5 : w.cell? ⟨g, o + 5, none⟩ = some (.int .u8 (x5.toNat : Int)) := hc 5 (by simp)
  have c6 : w.cell? ⟨g, o + 6, none⟩ = some (.int .u8 (x6.toNat : Int)) := hc 6 (by simp)
  have c7 : w.cell? ⟨g, o + 7, none⟩ = some (.int .u8 (x7.toNat : Int)) := hc 7 (by simp)
  clear hc hr
  have hb := b.toNat_lt
  have hx1 := x1.toNat_lt
  have hx2 := x2.toNat_lt
  have hx3 := x3.toNat_lt
  have hx4 := x4.toNat_lt
  have hx5 := x5.toNat_lt
  have hx6 := x6.toNat_lt
  have hx7 := x7.toNat_lt
  rw [show ((((((((b.toNat : Int) % 64) * 256 + (x1.toNat : Int)) * 256 + (x2.toNat : Int)) * 256 + (x3.toNat : Int)) * 256 + (x4.toNat : Int)) * 256 + (x5.toNat : Int)) * 256 + (x6.toNat : Int)) * 256 + (x7.toNat : Int) = 256 * (256 * (256 * (256 * (256 * (256 * (256 * ((b.toNat : Int) % 64) + (x1.toNat : Int)) + (x2.toNat : Int)) + (x3.toNat : Int)) + (x4.toNat : Int)) + (x5.toNat : Int)) + (x6.toNat : Int)) + (x7.toNat : Int) from by omega]
  have q2 : Int.tdiv (b.toNat : Int) 64 = (b.toNat : Int) / 64 := Int.tdiv_eq_ediv_of_nonneg (by omega)
  have q3 : Int.tmod (b.toNat : Int) 64 = (b.toNat : Int) % 64 := Int.tmod_eq_emod_of_nonneg (by omega)
  rw [q] at q2
  have sz := fun W => rsize_any (x := 256 * (256 * (256 * (256 * (256 * (256 * (256 * ((b.toNat : Int) % 64) + (x1.toNat : Int)) + (x2.toNat : Int)) + (x3.toNat : Int)) + (x4.toNat : Int)) + (x5.toNat : Int)) + (x6.toNat : Int)) + (x7.toNat : Int)) (w := W)
  have Hs := Lib.hid sz
  clear sz
  unfold vIs
  by_cases hv : vSize (256 * (256 * (256 * (256 * (256 * (256 * (256 * ((b.toNat : Int) % 64) + (x1.toNat : Int)) + (x2.toNat : Int)) + (x3.toNat : Int)) + (x4.toNat : Int)) + (x5.toNat : Int)) + (x6.toNat : Int)) + (x7.toNat : Int)) = 8
  · rw [if_pos hv]
    rw [hv] at Hs
    clear hv
    go_enter Try.func100, Try.ntmps100
    go_wp2_with fail
    refine wp_loop_rounds 5 ?_
    repeat any_goals (rw [rounds_succ]; go_wp2_with fail)
    refine wp_loop_rounds 9 ?_
    repeat any_goals (rw [rounds_succ]; go_wp2_with fail)
    refine (Hs.out _).mono ?_
    rintro e w1 ⟨rfl, rfl⟩
    go_wp2
    go_ret3
    exact ⟨rfl, rfl⟩
  · rw [if_neg hv]
    have hv2 : ((vSize (256 * (256 * (256 * (256 * (256 * (256 * (256 * ((b.toNat : Int) % 64) + (x1.toNat : Int)) + (x2.toNat : Int)) + (x3.toNat : Int)) + (x4.toNat : Int)) + (x5.toNat : Int)) + (x6.toNat : Int)) + (x7.toNat : Int)) : Int) = 8) = False := by simp only [eq_iff_iff, iff_false]; omega
    generalize vSize (256 * (256 * (256 * (256 * (256 * (256 * (256 * ((b.toNat : Int) % 64) + (x1.toNat : Int)) + (x2.toNat : Int)) + (x3.toNat : Int)) + (x4.toNat : Int)) + (x5.toNat : Int)) + (x6.toNat : Int)) + (x7.toNat : Int)) = s at *
    go_enter Try.func100, Try.ntmps100
    go_wp2_with fail
    refine wp_loop_rounds 5 ?_
    repeat any_goals (rw [rounds_succ]; go_wp2_with fail)
    refine wp_loop_rounds 9 ?_
    repeat any_goals (rw [rounds_succ]; go_wp2_with fail)
    refine (Hs.out _).mono ?_
    rintro e w1 ⟨rfl, rfl⟩
    go_wp2
    go_ret3
    exact ⟨rfl, rfl⟩

theorem rget_any {lo up : Nat} {A : Option Addr} {n c : Nat} {l : List UInt8} {w : World} (hr : Sl w lo up 1 A n c (byteCells l)) : Calls Try.prog 100 #[.slice A n c] w (RetN w (vGet l)) := by
  have hl : n = l.length := by have := hr.len; rw [byteCells_length] at this; omega
  rcases l with _ | ⟨b, r⟩
  · obtain rfl : n = 0 := hl
    exact rget_nil
  rw [vGet_cons]
  by_cases h : r.length + 1 < vTell b
  · rw [if_pos h]; exact rget_short hr h
  rw [if_neg h]
  rcases tell_cases b with ⟨q, ht⟩ | ⟨q, ht⟩ | ⟨q, ht⟩ | ⟨q, ht⟩ <;> rw [ht] at h ⊢
  · exact rget_1 hr q
  · rcases r with _ | ⟨x1, r⟩
    · simp at h
    exact rget_2 hr q
  · rcases r with _ | ⟨x1, _ | ⟨x2, _ | ⟨x3, r⟩⟩⟩
    any_goals simp at h
    exact rget_4 hr q
  · rcases r with _ | ⟨x1, _ | ⟨x2, _ | ⟨x3, _ | ⟨x4, _ | ⟨x5, _ | ⟨x6, _ | ⟨x7, r⟩⟩⟩⟩⟩⟩⟩
    any_goals simp at h
    exact rget_8 hr q
end

/- The walks of varint.All and the document's All. -/
section
open Go.RowKit
set_option linter.unusedVariables false
set_option linter.unusedSimpArgs false
attribute [local go_sem ↓] Go.wp_at_zero Go.wp_at_succ

/-- The numbers that bytes are, in at most so many steps. -/
def vAllF : Nat → List UInt8 → Option (List Int)
  | _, [] => some []
  | 0, _ :: _ => none
  | k + 1, b :: r => if (vGet (b :: r)).2.2 = 0 then (vAllF k ((b :: r).drop (vGet (b :: r)).2.1)).map ((vGet (b :: r)).1 :: ·) else none
/-- All. -/
def vAll (l : List UInt8) : List Int × Int := match vAllF l.length l with | some x => (x, 0) | none => ([], 10)

theorem vAllF_nil (k : Nat) : vAllF k [] = some [] := by cases k <;> rfl
theorem vAllF_cons {k : Nat} {l : List UInt8} (h : 0 < l.length) : vAllF (k + 1) l = if (vGet l).2.2 = 0 then (vAllF k (l.drop (vGet l).2.1)).map ((vGet l).1 :: ·) else none := by
  rcases l with _ | ⟨b, r⟩
  · simp at h
  · rfl

theorem vIs_cases (x : Int) (s : Nat) : (vIs x s = (x, s, 0) ∧ vSize x = s) ∨ vIs x s = (0, 0, 10) := by
  unfold vIs
  by_cases h : vSize x = s
  · rw [if_pos h]; exact .inl ⟨rfl, h⟩
  · rw [if_neg h]; exact .inr rfl
theorem vTell_pos (b : UInt8) : 1 ≤ vTell b ∧ vTell b ≤ 8 := by rcases tell_cases b with h | h | h | h <;> omega
theorem vGet_cases (l : List UInt8) : ((vGet l).2.2 = 0 ∧ 1 ≤ (vGet l).2.1 ∧ (vGet l).2.1 ≤ l.length) ∨ vGet l = (0, 0, 10) := by
  rcases l with _ | ⟨b, r⟩
  · exact .inr rfl
  rw [vGet_cons]
  by_cases h : r.length + 1 < vTell b
  · rw [if_pos h]; exact .inr rfl
  rw [if_neg h]
  have := vTell_pos b
  rcases vIs_cases (vFold ((b.toNat : Int) % 64) (r.take (vTell b - 1))) (vTell b) with ⟨h2, _⟩ | h2
  · rw [h2]; exact .inl ⟨rfl, this.1, by simp; omega⟩
  · exact .inr h2

/-- What numbers of the callee's own, and an error, are handed back as. -/
def RetIE (w : World) (l : List Int) (n : Int) (e : Ending) (w' : World) : Prop :=
  ∃ A c, e = .returned (.tuple #[.slice A l.length c, .int .i64 n]) ∧ w'.ownsRow w.heap.size 3 1 (.slice A l.length c) l.length (intCells l) ∧ Below w.heap.size w w'

theorem rall_any {lo up : Nat} {A : Option Addr} {n c : Nat} {l : List UInt8} {w : World} (hr : Sl w lo up 1 A n c (byteCells l)) (hup : up ≤ w.heap.size) (hn : n ≤ 1000000) :
    Calls Try.prog 67 #[.slice A n c] w (RetIE w (vAll l).1 (vAll l).2) := by
  obtain ⟨j0, hj0, jz0, jz1, jz2⟩ := info_parts info5
  obtain ⟨i0, hi0, hz0, hz1, hz2⟩ := info_parts info3
  have hl0 : n = l.length := by have := hr.len; rw [byteCells_length] at this; omega
  subst hl0
  go_enter Try.func67, Try.ntmps67
  go_wp2_with fail
  go_loopg [0, 4] l.length (fun gh s0 s4 wr => ∃ (r : List UInt8) (A c : _) (acc : List Int) (A2 c2 : _) (k : Nat), gh = r.length ∧ s0 = .slice A r.length c ∧ Sl wr lo up 1 A r.length c (byteCells r) ∧ s4 = .slice A2 acc.length c2 ∧
    wr.ownsRow w.heap.size 3 1 (.slice A2 acc.length c2) acc.length (intCells acc) ∧ Below w.heap.size w wr ∧ acc.length + r.length ≤ l.length ∧ r.length ≤ k ∧ Hid (vAllF l.length l = (vAllF k r).map (acc ++ ·)))
  case atStart => exact ⟨l, A, c, [], none, 0, l.length, rfl, rfl, hr, rfl, World.ownsRow_nil _ _ _ _, Below.refl _ _, by simp, by omega, Lib.hid (by cases vAllF l.length l <;> simp)⟩
  case round =>
    obtain ⟨r, A, c, acc, A2, c2, k, hg, rfl, hs, rfl, hown, bb, hlen, hk, hall⟩ := hrel
    have bs1 := bb.size
    clear hr
    by_cases h : 0 < r.length
    · obtain ⟨kk, rfl⟩ : ∃ kk, k = kk + 1 := ⟨k - 1, by omega⟩
      have HG := Lib.hid (fun W lo up (h : Sl W lo up 1 A r.length c (byteCells r)) => rget_any h)
      rcases vGet_cases r with ⟨h0, h1, h2⟩ | h0
      · have hall2 : vAllF l.length l = (vAllF kk (r.drop (vGet r).2.1)).map ((acc ++ [(vGet r).1]) ++ ·) := by
          rw [hall.out, vAllF_cons h, if_pos h0]
          cases vAllF kk (r.drop (vGet r).2.1) <;> simp
        have Hall2 := Lib.hid hall2
        clear hall hall2
        obtain ⟨⟨x, s, e⟩, hgq⟩ : ∃ q, q = vGet r := ⟨_, rfl⟩
        rw [← hgq] at HG Hall2 h0 h1 h2
        clear hgq
        simp only at h0 h1 h2
        subst h0
        obtain ⟨A3, hcut, hs3⟩ := cut_l Try.underlying23 hj0 jz1 hs s (r.length - s) (s : Int) rfl (by omega)
        rw [Nat.mul_one, byteCells_drop] at hs3
        have hdl : (r.drop s).length = r.length - s := List.length_drop
        have Hdl := Lib.hid hdl
        clear hdl
        go_wp2_with fail
        refine (HG.out _ _ _ hs).mono ?_
        rintro e w2 ⟨rfl, rfl⟩
        go_wp2_with (at_builtin; refine wpList_append_sl _ rfl (.tmp 20) (.tmp 22) _ rfl w.heap.size 3 i0 _ 1 8 Try.underlying88 hi0 hz0 hz1 hz2 rfl (by omega) (.slice A2 acc.length c2) acc.length _ rfl (own_alloc hown _) w2.heap.size (w2.heap.size + 1) _ 1 1 _ rfl (Sl.new w2 3 _ 1 1 1 _ rfl (by omega) rfl rfl) (by intro u hu; simp at hu; subst hu; rfl) (acc.length + 1) rfl _ rfl (by unfold maxLen; omega) (by omega) (by simp; omega) ?_; intro A4 c4 w4 hown4 hg4; have hb4 := grown_below (B := w.heap.size) hg4 (by simp; omega) (fun k hk => (hown.lt k hk).1))
        go_roundg (r.length - s)
        case measure => omega
        case rel =>
          have hs4 := ((hs3.alloc (by omega) (.cells #[.int .i64 x] 3))).below hb4 hup
          refine ⟨r.drop s, A3, c - s, acc ++ [x], A4, c4, kk, ?_, ?_, ?_, ?_, ?_, (bb.alloc bs1 _).trans hb4, ?_, ?_, Hall2⟩
          · exact Hdl.out.symm
          · rw [Hdl.out]
          · rw [Hdl.out]; exact hs4
          · rw [List.length_append]; rfl
          · rw [List.length_append, intCells_append]; exact hown4
          · rw [List.length_append, Hdl.out]; simp; omega
          · rw [Hdl.out]; omega
      · have hj : vAll l = ([], 10) := by
          unfold vAll
          rw [hall.out, vAllF_cons h, h0]
          rfl
        rw [h0] at HG
        rw [hj]
        clear hall
        go_wp2_with fail
        refine (HG.out _ _ _ hs).mono ?_
        rintro e w2 ⟨rfl, rfl⟩
        go_wp2
        go_ret2
        exact ⟨none, 0, rfl, World.ownsRow_nil _ _ _ _, bb⟩
    · obtain rfl : r = [] := List.eq_nil_of_length_eq_zero (by omega)
      have hj : vAll l = (acc, 0) := by
        unfold vAll
        rw [hall.out, vAllF_nil]
        simp
      rw [hj]
      clear hall
      go_wp2
      go_ret2
      exact ⟨A2, c2, rfl, hown, bb⟩

/-- The closure: what is read next. -/
theorem next_any {lo up gb ge : Nat} {A : Option Addr} {n c : Nat} {r : List UInt8} {e0 : Int} {w : World} (hr : Sl w lo up 1 A n c (byteCells r)) (hb : Blk w gb 23 #[.slice A n c]) (he : Blk w ge 26 #[.int .i64 e0]) (hne : gb ≠ ge) (hup1 : gb < lo ∨ up ≤ gb) (hup2 : ge < lo ∨ up ≤ ge) :
    Calls Try.prog 97 #[.pointer (some ⟨gb, 0, none⟩), .pointer (some ⟨ge, 0, none⟩)] w fun e w' => e = .returned (.int .i64 (vGet r).1) ∧ ∃ A', Sl w lo up 1 A' (n - (vGet r).2.1) (c - (vGet r).2.1) (byteCells (r.drop (vGet r).2.1)) ∧
      w' = (w.setCell ⟨ge, 0, none⟩ (.int .i64 (vGet r).2.2)).setCell ⟨gb, 0, none⟩ (.slice A' (n - (vGet r).2.1) (c - (vGet r).2.1)) := by
  obtain ⟨j0, hj0, jz0, jz1, jz2⟩ := info_parts info5
  have hl0 : n = r.length := by have := hr.len; rw [byteCells_length] at this; omega
  subst hl0
  have HG := Lib.hid (fun W lo up (h : Sl W lo up 1 A r.length c (byteCells r)) => get_any h)
  have hle : (vGet r).2.1 ≤ r.length := by
    rcases vGet_cases r with ⟨h0, h1, h2⟩ | h0
    · exact h2
    · rw [h0]; exact Nat.zero_le _
  obtain ⟨⟨x, s, e⟩, hgq⟩ : ∃ q, q = vGet r := ⟨_, rfl⟩
  rw [← hgq] at HG hle ⊢
  clear hgq
  simp only at hle ⊢
  obtain ⟨A3, hcut, hs3⟩ := cut_l Try.underlying23 hj0 jz1 hr s (r.length - s) (s : Int) rfl (by omega)
  rw [Nat.mul_one, byteCells_drop] at hs3
  have ⟨kb, fb⟩ := hb.rules
  have ⟨ke, fe⟩ := he.rules
  go_enter Try.func97, Try.ntmps97
  go_wp2_with fail
  refine (HG.out _ _ _ hr).mono ?_
  rintro e w2 ⟨rfl, rfl⟩
  go_wp2
  go_ret
  exact ⟨rfl, A3, hs3, rfl⟩
end

/- The walk of varint.All. -/
section
open Go.RowKit
set_option linter.unusedVariables false
set_option linter.unusedSimpArgs false
attribute [local go_sem ↓] Go.wp_at_zero Go.wp_at_succ

set_option maxHeartbeats 4000000 in
theorem all_any {lo up : Nat} {A : Option Addr} {n c : Nat} {l : List UInt8} {w : World} (hr : Sl w lo up 1 A n c (byteCells l)) (hup : up ≤ w.heap.size) (hn : n ≤ 1000000) :
    Calls Try.prog 64 #[.slice A n c] w (RetIE w (vAll l).1 (vAll l).2) := by
  obtain ⟨i0, hi0, hz0, hz1, hz2⟩ := info_parts info3
  have hl0 : n = l.length := by have := hr.len; rw [byteCells_length] at this; omega
  subst hl0
  go_enter Try.func64, Try.ntmps64
  go_wp2_with fail
  go_loopg [2] l.length (fun gh s2 wr => ∃ (r : List UInt8) (A c : _) (acc : List Int) (A2 c2 : _) (k : Nat) (ev : Int), Blk wr w.heap.size 23 #[.slice A r.length c] ∧ Blk wr (w.heap.size + 1) 26 #[.int .i64 ev] ∧ Sl wr lo up 1 A r.length c (byteCells r) ∧ s2 = .slice A2 acc.length c2 ∧
    wr.ownsRow (w.heap.size + 2) 3 1 (.slice A2 acc.length c2) acc.length (intCells acc) ∧ Below w.heap.size w wr ∧ w.heap.size + 2 ≤ wr.heap.size ∧ acc.length ≤ l.length + 1 ∧ (ev = 0 ∧ gh = r.length ∧ acc.length + r.length ≤ l.length ∧ r.length ≤ k ∧ Hid (vAllF l.length l = (vAllF k r).map (acc ++ ·)) ∨ ev = 10 ∧ gh = 0 ∧ Hid (vAll l = ([], 10))))
  case atStart =>
    exact ⟨l, A, c, [], none, 0, l.length, 0, (Blk.new _ _ _ rfl).alloc _, Blk.new _ _ _ (by simp), (hr.alloc hup _).alloc (by simp; omega) _, rfl, World.ownsRow_nil _ _ _ _, ((Below.refl _ w).alloc (Nat.le_refl _) _).alloc (by simp) _, by simp, by simp, .inl ⟨rfl, rfl, by simp, by omega, Lib.hid (by cases vAllF l.length l <;> simp)⟩⟩
  case round =>
    obtain ⟨r, A, c, acc, A2, c2, k, ev, bB, bE, hs, rfl, hown, bb, hsz, hacc, hst⟩ := hrel
    have bs1 := bb.size
    have ⟨kb, fb⟩ := bB.rules
    have ⟨ke, fe⟩ := bE.rules
    clear hr
    rcases hst with ⟨rfl, hg, hlen, hk, hall⟩ | ⟨rfl, hg, hall⟩
    rotate_left
    · have hv := hall.out
      have Hv := Lib.hid hv
      clear hall hv
      by_cases h : 0 < r.length
      · go_wp2_with fail
        go_region
        go_wp2
        refine bodyPost_ret (v := .tuple #[.slice none 0 0, .int .i64 10]) (by simp [results, Try.results20, go_sem, ke]) rfl ⟨none, 0, by rw [Hv.out]; rfl, by rw [Hv.out]; exact World.ownsRow_nil _ _ _ _, (bb.setCell (by simp) _).drew⟩
      · go_wp2_with fail
        go_region
        go_wp2
        refine bodyPost_ret (v := .tuple #[.slice none 0 0, .int .i64 10]) (by simp [results, Try.results20, go_sem, ke]) rfl ⟨none, 0, by rw [Hv.out]; rfl, by rw [Hv.out]; exact World.ownsRow_nil _ _ _ _, (bb.setCell (by simp) _).drew⟩
    by_cases h : 0 < r.length
    · obtain ⟨kk, rfl⟩ : ∃ kk, k = kk + 1 := ⟨k - 1, by omega⟩
      have HG := Lib.hid (fun W (h : Sl W lo up 1 A r.length c (byteCells r)) (h1 : Blk W w.heap.size 23 #[.slice A r.length c]) (h2 : Blk W (w.heap.size + 1) 26 #[.int .i64 0]) => next_any h h1 h2 (by omega) (.inr hup) (.inr (by omega)))
      rcases vGet_cases r with ⟨h0, h1, h2⟩ | h0
      · have hall2 : vAllF l.length l = (vAllF kk (r.drop (vGet r).2.1)).map ((acc ++ [(vGet r).1]) ++ ·) := by
          rw [hall.out, vAllF_cons h, if_pos h0]
          cases vAllF kk (r.drop (vGet r).2.1) <;> simp
        have Hall2 := Lib.hid hall2
        clear hall hall2
        obtain ⟨⟨x, s, e⟩, hgq⟩ : ∃ q, q = vGet r := ⟨_, rfl⟩
        rw [← hgq] at HG Hall2 h0 h1 h2
        clear hgq
        simp only at h0 h1 h2
        subst h0
        have hdl : (r.drop s).length = r.length - s := List.length_drop
        have Hdl := Lib.hid hdl
        clear hdl
        go_wp2_with fail
        refine (HG.out _ hs bB bE).mono ?_
        rintro e w2 ⟨rfl, A3, hs3, rfl⟩
        simp only at hs3 ⊢
        have b2 : Blk ((wr.setCell ⟨w.heap.size + 1, 0, none⟩ (.int .i64 0)).setCell ⟨w.heap.size, 0, none⟩ (.slice A3 (r.length - s) (c - s))) w.heap.size 23 #[.slice A3 (r.length - s) (c - s)] := (bB.far (by simp) _).set_ 0 _
        have e2 : Blk ((wr.setCell ⟨w.heap.size + 1, 0, none⟩ (.int .i64 0)).setCell ⟨w.heap.size, 0, none⟩ (.slice A3 (r.length - s) (c - s))) (w.heap.size + 1) 26 #[.int .i64 0] := (bE.set_ 0 (.int .i64 0)).far (by simp) _
        have s2 : Sl ((wr.setCell ⟨w.heap.size + 1, 0, none⟩ (.int .i64 0)).setCell ⟨w.heap.size, 0, none⟩ (.slice A3 (r.length - s) (c - s))) lo up 1 A3 (r.length - s) (c - s) (byteCells (r.drop s)) := (hs3.setCell (.inr (by simp; omega)) _).setCell (.inr hup) _
        have o2 : ((wr.setCell ⟨w.heap.size + 1, 0, none⟩ (.int .i64 0)).setCell ⟨w.heap.size, 0, none⟩ (.slice A3 (r.length - s) (c - s))).ownsRow (w.heap.size + 2) 3 1 (.slice A2 acc.length c2) acc.length (intCells acc) := ownsRow_setCell_below (ownsRow_setCell_below hown (by simp) _) (by simp) _
        have bb2 : Below w.heap.size w ((wr.setCell ⟨w.heap.size + 1, 0, none⟩ (.int .i64 0)).setCell ⟨w.heap.size, 0, none⟩ (.slice A3 (r.length - s) (c - s))) := (bb.setCell (by simp) _).setCell (Nat.le_refl _) _
        have z2 : wr.heap.size ≤ ((wr.setCell ⟨w.heap.size + 1, 0, none⟩ (.int .i64 0)).setCell ⟨w.heap.size, 0, none⟩ (.slice A3 (r.length - s) (c - s))).heap.size := by simp
        generalize (wr.setCell ⟨w.heap.size + 1, 0, none⟩ (.int .i64 0)).setCell ⟨w.heap.size, 0, none⟩ (.slice A3 (r.length - s) (c - s)) = w2 at *
        clear kb ke fb fe
        go_wp2_with (at_builtin; go_loud (refine wpList_append_sl _ rfl (.tmp 13) (.tmp 16) _ rfl (w.heap.size + 2) 3 i0 _ 1 8 Try.underlying88 hi0 hz0 hz1 hz2 rfl (by omega) (.slice A2 acc.length c2) acc.length _ rfl (own_alloc o2 _) w2.heap.size (w2.heap.size + 1) _ 1 1 _ rfl (Sl.new w2 3 _ 1 1 1 _ rfl (by omega) rfl rfl) (by intro u hu; simp at hu; subst hu; rfl) (acc.length + 1) rfl _ rfl (by unfold maxLen; omega) (by omega) (by first | omega | (simp; omega)) ?_; intro A4 c4 w4 hown4 hg4; have hb4 := grown_below (B := w.heap.size + 2) hg4 (by first | omega | (simp; omega)) (fun k hk => (o2.lt k hk).1)))
        go_roundg (r.length - s)
        case measure => omega
        case rel =>
          refine ⟨r.drop s, A3, c - s, acc ++ [x], A4, c4, kk, 0, ?_, ?_, ?_, ?_, ?_, (bb2.alloc (by omega) _).trans (hb4.mono (by omega)), ?_, ?_, .inl ⟨rfl, Hdl.out.symm, ?_, ?_, Hall2⟩⟩
          · rw [Hdl.out]; exact (b2.alloc _).below hb4 (by omega)
          · exact (e2.alloc _).below hb4 (by omega)
          · rw [Hdl.out]; exact (s2.alloc (by omega) _).below hb4 (by omega)
          · rw [List.length_append]; rfl
          · rw [List.length_append, intCells_append]; exact hown4
          · have := hb4.size; simp at this; omega
          · rw [List.length_append]; simp; omega
          · rw [List.length_append, Hdl.out]; simp; omega
          · rw [Hdl.out]; omega
      · have hj : vAll l = ([], 10) := by
          unfold vAll
          rw [hall.out, vAllF_cons h, h0]
          rfl
        rw [h0] at HG
        have Hj := Lib.hid hj
        clear hall hj
        go_wp2_with fail
        refine (HG.out _ hs bB bE).mono ?_
        rintro e w2 ⟨rfl, A3, hs3, rfl⟩
        simp only at hs3 ⊢
        have b2 : Blk ((wr.setCell ⟨w.heap.size + 1, 0, none⟩ (.int .i64 10)).setCell ⟨w.heap.size, 0, none⟩ (.slice A3 (r.length - 0) (c - 0))) w.heap.size 23 #[.slice A3 (r.length - 0) (c - 0)] := (bB.far (by simp) _).set_ 0 _
        have e2 : Blk ((wr.setCell ⟨w.heap.size + 1, 0, none⟩ (.int .i64 10)).setCell ⟨w.heap.size, 0, none⟩ (.slice A3 (r.length - 0) (c - 0))) (w.heap.size + 1) 26 #[.int .i64 10] := (bE.set_ 0 (.int .i64 10)).far (by simp) _
        have s2 : Sl ((wr.setCell ⟨w.heap.size + 1, 0, none⟩ (.int .i64 10)).setCell ⟨w.heap.size, 0, none⟩ (.slice A3 (r.length - 0) (c - 0))) lo up 1 A3 (r.length - 0) (c - 0) (byteCells (r.drop 0)) := (hs3.setCell (.inr (by simp; omega)) _).setCell (.inr hup) _
        have o2 : ((wr.setCell ⟨w.heap.size + 1, 0, none⟩ (.int .i64 10)).setCell ⟨w.heap.size, 0, none⟩ (.slice A3 (r.length - 0) (c - 0))).ownsRow (w.heap.size + 2) 3 1 (.slice A2 acc.length c2) acc.length (intCells acc) := ownsRow_setCell_below (ownsRow_setCell_below hown (by simp) _) (by simp) _
        have bb2 : Below w.heap.size w ((wr.setCell ⟨w.heap.size + 1, 0, none⟩ (.int .i64 10)).setCell ⟨w.heap.size, 0, none⟩ (.slice A3 (r.length - 0) (c - 0))) := (bb.setCell (by simp) _).setCell (Nat.le_refl _) _
        have z2 : wr.heap.size ≤ ((wr.setCell ⟨w.heap.size + 1, 0, none⟩ (.int .i64 10)).setCell ⟨w.heap.size, 0, none⟩ (.slice A3 (r.length - 0) (c - 0))).heap.size := by simp
        generalize (wr.setCell ⟨w.heap.size + 1, 0, none⟩ (.int .i64 10)).setCell ⟨w.heap.size, 0, none⟩ (.slice A3 (r.length - 0) (c - 0)) = w2 at *
        clear kb ke fb fe
        have ⟨ke, fe⟩ := e2.rules
        have ⟨kb, fb⟩ := b2.rules
        have ne1 : ¬ (10 : Int) = 0 := by decide
        clear kb ke fb fe
        go_wp2_with (at_builtin; go_loud (refine wpList_append_sl _ rfl (.tmp 13) (.tmp 16) _ rfl (w.heap.size + 2) 3 i0 _ 1 8 Try.underlying88 hi0 hz0 hz1 hz2 rfl (by omega) (.slice A2 acc.length c2) acc.length _ rfl (own_alloc o2 _) w2.heap.size (w2.heap.size + 1) _ 1 1 _ rfl (Sl.new w2 3 _ 1 1 1 _ rfl (by omega) rfl rfl) (by intro u hu; simp at hu; subst hu; rfl) (acc.length + 1) rfl _ rfl (by unfold maxLen; omega) (by omega) (by first | omega | (simp; omega)) ?_; intro A4 c4 w4 hown4 hg4; have hb4 := grown_below (B := w.heap.size + 2) hg4 (by first | omega | (simp; omega)) (fun k hk => (o2.lt k hk).1); have e3 := (e2.alloc (.cells #[.int .i64 0] 3)).below hb4 (by omega); have ⟨ke, fe⟩ := e3.rules; have b3 := (b2.alloc (.cells #[.int .i64 0] 3)).below hb4 (by omega); have ⟨kb, fb⟩ := b3.rules))
        go_roundg 0
        case measure => omega
        case rel =>
          refine ⟨r.drop 0, A3, c - 0, acc ++ [0], A4, c4, 0, 10, ?_, ?_, ?_, ?_, ?_, (bb2.alloc (by omega) _).trans (hb4.mono (by omega)), ?_, ?_, .inr ⟨rfl, rfl, Hj⟩⟩
          · exact b3
          · exact e3
          · exact (s2.alloc (by omega) _).below hb4 (by omega)
          · rw [List.length_append]; rfl
          · rw [List.length_append, intCells_append]; exact hown4
          · have := hb4.size; simp at this; omega
          · rw [List.length_append]; simp; omega
    · obtain rfl : r = [] := List.eq_nil_of_length_eq_zero (by omega)
      have hj : vAll l = (acc, 0) := by
        unfold vAll
        rw [hall.out, vAllF_nil]
        simp
      rw [hj]
      clear hall
      go_wp2
      refine bodyPost_ret (v := .tuple #[.slice A2 acc.length c2, .int .i64 0]) (by simp [results, Try.results20, go_sem, ke]) rfl ⟨A2, c2, rfl, own_more (ownsRow_setCell_below hown (by simp) _) (by omega), bb.setCell (by simp) _⟩
end

/- Plain laws on the numbers' bytes: no program is named. -/
section
open Go.RowKit
set_option linter.unusedVariables false
set_option linter.unusedSimpArgs false

theorem vSize_1 {x : Int} (h : vSize x = 1) : 0 ≤ x ∧ x < 64 := by unfold vSize at h; (repeat' split at h) <;> omega
theorem vSize_2 {x : Int} (h : vSize x = 2) : 64 ≤ x ∧ x < 16384 := by unfold vSize at h; (repeat' split at h) <;> omega
theorem vSize_4 {x : Int} (h : vSize x = 4) : 16384 ≤ x ∧ x < 1073741824 := by unfold vSize at h; (repeat' split at h) <;> omega
theorem vSize_8 {x : Int} (h : vSize x = 8) : 1073741824 ≤ x ∧ x < 4611686018427387904 := by unfold vSize at h; (repeat' split at h) <;> omega
theorem vSize_ne {x : Int} (h0 : 0 ≤ x) (h1 : x < 4611686018427387904) : vSize x ≠ 0 := by unfold vSize; (repeat' split) <;> omega
theorem vSize_range {x : Int} (h : vSize x ≠ 0) : 0 ≤ x ∧ x < 4611686018427387904 := by unfold vSize at h; (repeat' split at h) <;> omega
theorem vSize_mono {x y : Int} (h : x ≤ y) (hy : vSize y ≠ 0) (hx : vSize x ≠ 0) : vSize x ≤ vSize y := by
  have h1 := vSize_range hx
  have h2 := vSize_range hy
  unfold vSize
  (repeat' split) <;> omega

theorem vBytes_1 {x : Int} (h : vSize x = 1) : vBytes x = [vByte x 0] := by unfold vBytes; rw [h]; rfl
theorem vBytes_2 {x : Int} (h : vSize x = 2) : vBytes x = [vByte x 1 + 64, vByte x 0] := by unfold vBytes; rw [h]; rfl
theorem vBytes_4 {x : Int} (h : vSize x = 4) : vBytes x = [vByte x 3 + 128, vByte x 2, vByte x 1, vByte x 0] := by unfold vBytes; rw [h]; rfl
theorem vBytes_8 {x : Int} (h : vSize x = 8) : vBytes x = [vByte x 7 + 192, vByte x 6, vByte x 5, vByte x 4, vByte x 3, vByte x 2, vByte x 1, vByte x 0] := by unfold vBytes; rw [h]; rfl
theorem vBytes_length (x : Int) : (vBytes x).length = vSize x := by
  rcases vSize_cases x with h | h | h | h | h
  · unfold vBytes; rw [h]; rfl
  · rw [vBytes_1 h, h]; rfl
  · rw [vBytes_2 h, h]; rfl
  · rw [vBytes_4 h, h]; rfl
  · rw [vBytes_8 h, h]; rfl

theorem vTell_of {b : UInt8} {q : Int} (h : (b.toNat : Int) / 64 = q) : (q = 0 → vTell b = 1) ∧ (q = 1 → vTell b = 2) ∧ (q = 2 → vTell b = 4) ∧ (q = 3 → vTell b = 8) := by
  rcases tell_cases b with ⟨h1, h2⟩ | ⟨h1, h2⟩ | ⟨h1, h2⟩ | ⟨h1, h2⟩ <;> refine ⟨fun h => ?_, fun h => ?_, fun h => ?_, fun h => ?_⟩ <;> omega

theorem vGet_of {b : UInt8} {r : List UInt8} {x : Int} {s : Nat} (ht : vTell b = s) (hs : vSize x = s) (hr : s ≤ r.length + 1) (hf : vFold ((b.toNat : Int) % 64) (r.take (s - 1)) = x) : vGet (b :: r) = (x, s, 0) := by
  rw [vGet_cons, ht, if_neg (by omega), hf]
  unfold vIs
  rw [if_pos hs]

theorem vByte_64 (x : Int) (k : Nat) : ((vByte x k + 64).toNat : Int) = (x / 2 ^ (8 * k) % 256 + 64) % 256 := by rw [u8_add, vByte_int]; rfl
theorem vByte_128 (x : Int) (k : Nat) : ((vByte x k + 128).toNat : Int) = (x / 2 ^ (8 * k) % 256 + 128) % 256 := by rw [u8_add, vByte_int]; rfl
theorem vByte_192 (x : Int) (k : Nat) : ((vByte x k + 192).toNat : Int) = (x / 2 ^ (8 * k) % 256 + 192) % 256 := by rw [u8_add, vByte_int]; rfl

/-- What is written is read, whatever stands behind. -/
theorem vGet_vBytes {x : Int} (h0 : vSize x ≠ 0) (r : List UInt8) : vGet (vBytes x ++ r) = (x, vSize x, 0) := by
  rcases vSize_cases x with h | h | h | h | h
  · exact absurd h h0
  · have hx := vSize_1 h
    have hb := vByte_int x 0
    simp at hb
    rw [vBytes_1 h, h]
    exact vGet_of ((vTell_of (by rfl)).1 (by omega)) h (by simp) (by simp [vFold]; omega)
  · have hx := vSize_2 h
    obtain ⟨b, hbd⟩ : ∃ b, b = vByte x 1 + 64 := ⟨_, rfl⟩
    have hb := vByte_64 x 1
    rw [← hbd] at hb
    have h0 := vByte_int x 0
    simp at hb h0
    rw [vBytes_2 h, h, ← hbd]
    exact vGet_of ((vTell_of (by rfl)).2.1 (by omega)) h (by simp) (by simp [vFold]; omega)
  · have hx := vSize_4 h
    obtain ⟨b, hbd⟩ : ∃ b, b = vByte x 3 + 128 := ⟨_, rfl⟩
    have hb := vByte_128 x 3
    rw [← hbd] at hb
    have h0 := vByte_int x 0
    have h1 := vByte_int x 1
    have h2 := vByte_int x 2
    simp at hb h0 h1 h2
    rw [vBytes_4 h, h, ← hbd]
    exact vGet_of ((vTell_of (by rfl)).2.2.1 (by omega)) h (by simp) (by simp [vFold]; omega)
  · have hx := vSize_8 h
    obtain ⟨b, hbd⟩ : ∃ b, b = vByte x 7 + 192 := ⟨_, rfl⟩
    have hb := vByte_192 x 7
    rw [← hbd] at hb
    have h0 := vByte_int x 0
    have h1 := vByte_int x 1
    have h2 := vByte_int x 2
    have h3 := vByte_int x 3
    have h4 := vByte_int x 4
    have h5 := vByte_int x 5
    have h6 := vByte_int x 6
    simp at hb h0 h1 h2 h3 h4 h5 h6
    rw [vBytes_8 h, h, ← hbd]
    exact vGet_of ((vTell_of (by rfl)).2.2.2 (by omega)) h (by simp) (by simp [vFold]; omega)

theorem vBytes_inj {x y : Int} (hx : vSize x ≠ 0) (hy : vSize y ≠ 0) (h : vBytes x = vBytes y) : x = y := by
  have h1 := vGet_vBytes hx []
  have h2 := vGet_vBytes hy []
  rw [h, h2] at h1
  injection h1 with h1
  exact h1.symm

/-- Neither one's bytes begin the other's. -/
theorem vBytes_apart {x y : Int} (hx : vSize x ≠ 0) (hy : vSize y ≠ 0) (h : (vBytes x).take (vBytes y).length = vBytes y) : x = y := by
  have h1 := vGet_vBytes hx []
  have h2 := vGet_vBytes hy ((vBytes x).drop (vBytes y).length)
  rw [List.append_nil, ← List.take_append_drop (vBytes y).length (vBytes x), h, h2] at h1
  injection h1 with h1
  exact h1.symm

theorem u8_eq {a b : UInt8} (h : (a.toNat : Int) = b.toNat) : a = b := UInt8.toNat_inj.1 (by omega)

/-- What is read was written so. -/
theorem vBytes_vGet {l : List UInt8} (h : (vGet l).2.2 = 0) : vBytes (vGet l).1 = l.take (vGet l).2.1 ∧ vSize (vGet l).1 = (vGet l).2.1 ∧ (vGet l).2.1 ≠ 0 := by
  rcases l with _ | ⟨b, r⟩
  · simp [vGet] at h
  rw [vGet_cons] at h ⊢
  by_cases hr : r.length + 1 < vTell b
  · rw [if_pos hr] at h; simp at h
  rw [if_neg hr] at h ⊢
  have hpos := vTell_pos b
  rcases vIs_cases (vFold ((b.toNat : Int) % 64) (r.take (vTell b - 1))) (vTell b) with ⟨h2, hs⟩ | h2
  · rw [h2]
    refine ⟨?_, hs, by simp; omega⟩
    clear h2 h
    have hb := b.toNat_lt
    rcases tell_cases b with ⟨q, ht⟩ | ⟨q, ht⟩ | ⟨q, ht⟩ | ⟨q, ht⟩ <;> rw [ht] at hs hr ⊢ <;> simp only at hs ⊢
    · rw [vBytes_1 hs]
      simp [vFold] at hs ⊢
      apply u8_eq
      rw [vByte_int]
      omega
    · rcases r with _ | ⟨x1, r⟩
      any_goals (simp at hr; done)
      rw [vBytes_2 hs]
      simp [vFold] at hs ⊢
      have hx1 := x1.toNat_lt
      refine ⟨?_, ?_⟩
      · apply u8_eq
        rw [vByte_64]
        omega
      · apply u8_eq
        rw [vByte_int]
        omega
    · rcases r with _ | ⟨x1, _ | ⟨x2, _ | ⟨x3, r⟩⟩⟩
      any_goals (simp at hr; done)
      rw [vBytes_4 hs]
      simp [vFold] at hs ⊢
      have hx1 := x1.toNat_lt
      have hx2 := x2.toNat_lt
      have hx3 := x3.toNat_lt
      refine ⟨?_, ?_, ?_, ?_⟩
      · apply u8_eq
        rw [vByte_128]
        omega
      · apply u8_eq
        rw [vByte_int]
        omega
      · apply u8_eq
        rw [vByte_int]
        omega
      · apply u8_eq
        rw [vByte_int]
        omega
    · rcases r with _ | ⟨x1, _ | ⟨x2, _ | ⟨x3, _ | ⟨x4, _ | ⟨x5, _ | ⟨x6, _ | ⟨x7, r⟩⟩⟩⟩⟩⟩⟩
      any_goals (simp at hr; done)
      rw [vBytes_8 hs]
      simp [vFold] at hs ⊢
      have hx1 := x1.toNat_lt
      have hx2 := x2.toNat_lt
      have hx3 := x3.toNat_lt
      have hx4 := x4.toNat_lt
      have hx5 := x5.toNat_lt
      have hx6 := x6.toNat_lt
      have hx7 := x7.toNat_lt
      refine ⟨?_, ?_, ?_, ?_, ?_, ?_, ?_, ?_⟩
      · apply u8_eq
        rw [vByte_192]
        omega
      · apply u8_eq
        rw [vByte_int]
        omega
      · apply u8_eq
        rw [vByte_int]
        omega
      · apply u8_eq
        rw [vByte_int]
        omega
      · apply u8_eq
        rw [vByte_int]
        omega
      · apply u8_eq
        rw [vByte_int]
        omega
      · apply u8_eq
        rw [vByte_int]
        omega
      · apply u8_eq
        rw [vByte_int]
        omega
  · rw [h2] at h; simp at h

theorem vAllF_vCat : ∀ (l : List Int) (k : Nat), (∀ x ∈ l, vSize x ≠ 0) → (vCat l).length ≤ k → vAllF k (vCat l) = some l
  | [], k, _, _ => vAllF_nil k
  | x :: l, k, h, hk => by
    have hx := h x (List.mem_cons_self ..)
    have e : vCat (x :: l) = vBytes x ++ vCat l := by simp [vCat]
    have hg := vGet_vBytes hx (vCat l)
    have hlen := vBytes_length x
    rw [e] at hk ⊢
    rw [List.length_append] at hk
    obtain ⟨kk, rfl⟩ : ∃ kk, k = kk + 1 := ⟨k - 1, by omega⟩
    rw [vAllF_cons (by rw [List.length_append]; omega), hg, if_pos rfl]
    simp only
    rw [← hlen, List.drop_left, vAllF_vCat l kk (fun y hy => h y (List.mem_cons_of_mem _ hy)) (by omega)]
    rfl
theorem vAll_vCat {l : List Int} (h : ∀ x ∈ l, vSize x ≠ 0) : vAll (vCat l) = (l, 0) := by
  unfold vAll
  rw [vAllF_vCat l _ h (Nat.le_refl _)]
theorem vAllF_back : ∀ (k : Nat) (b : List UInt8) (l : List Int), vAllF k b = some l → vCat l = b ∧ ∀ x ∈ l, vSize x ≠ 0
  | k, [], l, h => by rw [vAllF_nil] at h; injection h with h; subst h; simp [vCat]
  | 0, _ :: _, l, h => by cases h
  | k + 1, b :: r, l, h => by
    rw [vAllF_cons (by simp)] at h
    by_cases h0 : (vGet (b :: r)).2.2 = 0
    · rw [if_pos h0] at h
      obtain ⟨h1, h2, h3⟩ := vBytes_vGet h0
      cases h4 : vAllF k ((b :: r).drop (vGet (b :: r)).2.1) with
      | none => rw [h4] at h; cases h
      | some ys =>
        rw [h4] at h
        injection h with h
        subst h
        obtain ⟨h5, h6⟩ := vAllF_back k _ _ h4
        refine ⟨?_, ?_⟩
        · have e : vCat ((vGet (b :: r)).1 :: ys) = vBytes (vGet (b :: r)).1 ++ vCat ys := by simp [vCat]
          rw [e, h1, h5, List.take_append_drop]
        · intro x hx
          rcases List.mem_cons.1 hx with hx | hx
          · rw [hx, h2]; exact h3
          · exact h6 x hx
    · rw [if_neg h0] at h; cases h
theorem vAll_back (b : List UInt8) : ((vAll b).2 = 0 ∧ vJoin (vAll b).1 = (b, 0)) ∨ vAll b = ([], 10) := by
  unfold vAll
  cases h : vAllF b.length b with
  | none => exact .inr rfl
  | some l =>
    obtain ⟨h1, h2⟩ := vAllF_back _ _ _ h
    refine .inl ⟨rfl, ?_⟩
    unfold vJoin
    rw [if_pos h2, h1]

/-- Fewer bytes are none. -/
theorem vGet_cut {x : Int} (h0 : vSize x ≠ 0) {k : Nat} (hk : k < vSize x) : vGet ((vBytes x).take k) = (0, 0, 10) := by
  rcases k with _ | k
  · rfl
  have hl := vBytes_length x
  have hg := vGet_vBytes h0 []
  rw [List.append_nil] at hg
  cases hb : vBytes x with
  | nil => rw [hb] at hl; simp at hl; omega
  | cons b r =>
    rw [hb] at hg hl
    have ht : vTell b = vSize x := by
      rw [vGet_cons] at hg
      by_cases hr : r.length + 1 < vTell b
      · rw [if_pos hr] at hg; injection hg with _ hg; injection hg with _ hg; cases hg
      rw [if_neg hr] at hg
      rcases vIs_cases (vFold ((b.toNat : Int) % 64) (r.take (vTell b - 1))) (vTell b) with ⟨h2, hs⟩ | h2
      · rw [h2] at hg; injection hg with _ hg; injection hg
      · rw [h2] at hg; injection hg with _ hg; injection hg with _ hg; cases hg
    rw [List.take_succ_cons, vGet_cons, if_pos (by rw [ht, List.length_take]; omega)]
end
end Go.Proofs.Ytfeeincglijmjaa
