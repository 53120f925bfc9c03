/- The walk of varint.Get. -/
import Derived.Test.YtfeeincglijmjaaVA
import Derived.Laws.BitsLemmas
namespace Go.Proofs.Ytfeeincglijmjaa
open Go.RowKit
set_option linter.unusedVariables false
set_option linter.unusedSimpArgs false
attribute [local go_sem ↓] Go.wp_at_zero Go.wp_at_succ

/-- What two numbers and an error are handed back as; nothing is written. -/
def RetN (w : World) (r : Int × Nat × Int) (e : Ending) (w' : World) : Prop := e = .returned (.tuple #[.int .i64 r.1, .int .i64 (r.2.1 : Int), .int .i64 r.2.2]) ∧ w' = w

/-- The size that a first byte tells. -/
def vTell (b : UInt8) : Nat := match b.toNat / 64 with | 0 => 1 | 1 => 2 | 2 => 4 | _ => 8
/-- The number that bytes are, behind what is known. -/
def vFold (a : Int) (l : List UInt8) : Int := l.foldl (fun a b => a * 256 + (b.toNat : Int)) a
/-- A number of a size, or an error. -/
def vIs (x : Int) (s : Nat) : Int × Nat × Int := if vSize x = s then (x, s, 0) else (0, 0, 10)
/-- Get. -/
def vGet : List UInt8 → Int × Nat × Int
  | [] => (0, 0, 10)
  | b :: r => if r.length + 1 < vTell b then (0, 0, 10) else vIs (vFold ((b.toNat : Int) % 64) (r.take (vTell b - 1))) (vTell b)

theorem or8 (a x : Int) (h0 : 0 ≤ a) (h1 : a < 36028797018963968) (h2 : 0 ≤ x) (h3 : x < 256) : bits .or .i64 (a * 256) x = a * 256 + x :=
  bits_join .i64 63 (by decide) (fun n h0 h1 => by rw [IntKind.wrap_i64]; omega) 8 (a * 256) x (by omega) (by omega) (by omega) h2 (by omega) (by omega)

/-- The cells of a slice of bytes. -/
theorem sl_cell {w : World} {lo up n c : Nat} {A : Option Addr} {l : List UInt8} (hr : Sl w lo up 1 A n c (byteCells l)) (hn : 0 < n) :
    ∃ g o, A = some ⟨g, o, none⟩ ∧ ∀ j (h : j < l.length), w.cell? ⟨g, o + j, none⟩ = some (.int .u8 (l[j].toNat : Int)) := by
  obtain ⟨g, o, rfl, _, _, hc⟩ := hr.at_ hn
  exact ⟨g, o, rfl, fun j h => by rw [hc j (by rw [byteCells_length]; exact h), byteCells_at h]⟩

theorem get_nil {A : Option Addr} {c : Nat} {w : World} : Calls Try.prog 85 #[.slice A 0 c] w (RetN w (0, 0, 10)) := by
  go_enter Try.func85, Try.ntmps85
  go_wp2
  go_ret3
  exact ⟨rfl, rfl⟩

theorem tell_cases (b : UInt8) : ((b.toNat : Int) / 64 = 0 ∧ vTell b = 1) ∨ ((b.toNat : Int) / 64 = 1 ∧ vTell b = 2) ∨ ((b.toNat : Int) / 64 = 2 ∧ vTell b = 4) ∨ ((b.toNat : Int) / 64 = 3 ∧ vTell b = 8) := by
  have hb := b.toNat_lt
  have h : b.toNat / 64 = 0 ∨ b.toNat / 64 = 1 ∨ b.toNat / 64 = 2 ∨ b.toNat / 64 = 3 := by omega
  unfold vTell
  rcases h with h | h | h | h <;> rw [h] <;> simp <;> omega

theorem get_short {lo up : Nat} {A : Option Addr} {n c : Nat} {b : UInt8} {r : List UInt8} {w : World} (hr : Sl w lo up 1 A n c (byteCells (b :: r))) (h : r.length + 1 < vTell b) :
    Calls Try.prog 85 #[.slice A n c] w (RetN w (0, 0, 10)) := by
  have hl : n = r.length + 1 := by have := hr.len; rw [byteCells_length] at this; simp at this; omega
  subst hl
  obtain ⟨g, o, rfl, hc⟩ := sl_cell hr (by omega)
  have c0 := hc 0 (by simp)
  have hlt := b.toNat_lt
  simp only [List.getElem_cons_zero, Nat.add_zero] at c0
  clear hc hr
  rcases tell_cases b with ⟨q, ht⟩ | ⟨q, ht⟩ | ⟨q, ht⟩ | ⟨q, ht⟩ <;> rw [ht] at h
  · omega
  all_goals
    clear ht
    go_enter Try.func85, Try.ntmps85
    go_wp2
    go_ret3
    exact ⟨rfl, rfl⟩

set_option maxHeartbeats 4000000 in
set_option maxRecDepth 100000 in
theorem get_1 {lo up : Nat} {A : Option Addr} {n c : Nat} {b : UInt8} {r : List UInt8} {w : World} (hr : Sl w lo up 1 A n c (byteCells (b :: r))) (q : (b.toNat : Int) / 64 = 0) :
    Calls Try.prog 85 #[.slice A n c] w (RetN w (vIs ((b.toNat : Int) % 64) 1)) := by
  have hl : n = r.length + 1 := by have := hr.len; rw [byteCells_length] at this; simp at this; omega
  subst hl
  obtain ⟨i0, hi0, hz0, hz1, hz2⟩ := info_parts info5
  obtain ⟨A3, hcut, hs3⟩ := cut_lh Try.underlying23 hi0 hz1 hr 1 0 1 1 rfl rfl (by omega)
  clear hs3
  obtain ⟨g, o, rfl, hc⟩ := sl_cell hr (by omega)
  have c0 : w.cell? ⟨g, o, none⟩ = some (.int .u8 (b.toNat : Int)) := hc 0 (by simp)
  clear hc hr hi0 hz0 hz1 hz2
  have hb := b.toNat_lt
  have hand := u8_and63 (b.toNat : Int) (by omega) (by omega)
  have sz := fun W => size_any (x := (b.toNat : Int) % 64) (w := W) (by omega)
  have Hs := Lib.hid sz
  clear sz
  unfold vIs
  by_cases hv : vSize ((b.toNat : Int) % 64) = 1
  · rw [if_pos hv]
    rw [hv] at Hs
    clear hv
    go_enter Try.func85, Try.ntmps85
    go_wp2_with fail
    refine wp_loop_rounds 2 ?_
    repeat any_goals (rw [rounds_succ]; go_wp2_with fail)
    refine (Hs.out _).mono ?_
    rintro e w1 ⟨rfl, rfl⟩
    go_wp2
    go_ret3
    exact ⟨rfl, rfl⟩
  · rw [if_neg hv]
    have hv2 : ((vSize ((b.toNat : Int) % 64) : Int) = 1) = False := by simp only [eq_iff_iff, iff_false]; omega
    generalize vSize ((b.toNat : Int) % 64) = s at *
    go_enter Try.func85, Try.ntmps85
    go_wp2_with fail
    refine wp_loop_rounds 2 ?_
    repeat any_goals (rw [rounds_succ]; go_wp2_with fail)
    refine (Hs.out _).mono ?_
    rintro e w1 ⟨rfl, rfl⟩
    go_wp2
    go_ret3
    exact ⟨rfl, rfl⟩

set_option maxHeartbeats 4000000 in
set_option maxRecDepth 100000 in
theorem get_2 {lo up : Nat} {A : Option Addr} {n c : Nat} {b x1 : UInt8} {r : List UInt8} {w : World} (hr : Sl w lo up 1 A n c (byteCells (b :: x1 :: r))) (q : (b.toNat : Int) / 64 = 1) :
    Calls Try.prog 85 #[.slice A n c] w (RetN w (vIs (((b.toNat : Int) % 64) * 256 + (x1.toNat : Int)) 2)) := by
  have hl : n = r.length + 2 := by have := hr.len; rw [byteCells_length] at this; simp at this; omega
  subst hl
  obtain ⟨i0, hi0, hz0, hz1, hz2⟩ := info_parts info5
  obtain ⟨A3, hcut, hs3⟩ := cut_lh Try.underlying23 hi0 hz1 hr 1 1 1 2 rfl rfl (by omega)
  rw [show (byteCells (b :: x1 :: r)).drop (1 * 1) = byteCells (x1 :: r) from rfl, show (byteCells (x1 :: r)).take (1 * 1) = byteCells [x1] from by simp [byteCells]] at hs3
  obtain ⟨g3, o3, rfl, hc3⟩ := sl_cell hs3 (by omega)
  have d0 : w.cell? ⟨g3, o3, none⟩ = some (.int .u8 (x1.toNat : Int)) := hc3 0 (by simp)
  clear hc3 hs3
  obtain ⟨g, o, rfl, hc⟩ := sl_cell hr (by omega)
  have c0 : w.cell? ⟨g, o, none⟩ = some (.int .u8 (b.toNat : Int)) := hc 0 (by simp)
  clear hc hr hi0 hz0 hz1 hz2
  have hb := b.toNat_lt
  have hx1 := x1.toNat_lt
  have hand := u8_and63 (b.toNat : Int) (by omega) (by omega)
  have ho1 := or8 ((b.toNat : Int) % 64) (x1.toNat : Int) (by omega) (by omega) (by omega) (by omega)
  have sz := fun W => size_any (x := ((b.toNat : Int) % 64) * 256 + (x1.toNat : Int)) (w := W) (by omega)
  have Hs := Lib.hid sz
  clear sz
  unfold vIs
  by_cases hv : vSize (((b.toNat : Int) % 64) * 256 + (x1.toNat : Int)) = 2
  · rw [if_pos hv]
    rw [hv] at Hs
    clear hv
    go_enter Try.func85, Try.ntmps85
    go_wp2_with fail
    refine wp_loop_rounds 3 ?_
    repeat any_goals (rw [rounds_succ]; go_wp2_with fail)
    refine (Hs.out _).mono ?_
    rintro e w1 ⟨rfl, rfl⟩
    go_wp2
    go_ret3
    exact ⟨rfl, rfl⟩
  · rw [if_neg hv]
    have hv2 : ((vSize (((b.toNat : Int) % 64) * 256 + (x1.toNat : Int)) : Int) = 2) = False := by simp only [eq_iff_iff, iff_false]; omega
    generalize vSize (((b.toNat : Int) % 64) * 256 + (x1.toNat : Int)) = s at *
    go_enter Try.func85, Try.ntmps85
    go_wp2_with fail
    refine wp_loop_rounds 3 ?_
    repeat any_goals (rw [rounds_succ]; go_wp2_with fail)
    refine (Hs.out _).mono ?_
    rintro e w1 ⟨rfl, rfl⟩
    go_wp2
    go_ret3
    exact ⟨rfl, rfl⟩

set_option maxHeartbeats 4000000 in
set_option maxRecDepth 100000 in
theorem get_4 {lo up : Nat} {A : Option Addr} {n c : Nat} {b x1 x2 x3 : UInt8} {r : List UInt8} {w : World} (hr : Sl w lo up 1 A n c (byteCells (b :: x1 :: x2 :: x3 :: r))) (q : (b.toNat : Int) / 64 = 2) :
    Calls Try.prog 85 #[.slice A n c] w (RetN w (vIs (((((b.toNat : Int) % 64) * 256 + (x1.toNat : Int)) * 256 + (x2.toNat : Int)) * 256 + (x3.toNat : Int)) 4)) := by
  have hl : n = r.length + 4 := by have := hr.len; rw [byteCells_length] at this; simp at this; omega
  subst hl
  obtain ⟨i0, hi0, hz0, hz1, hz2⟩ := info_parts info5
  obtain ⟨A3, hcut, hs3⟩ := cut_lh Try.underlying23 hi0 hz1 hr 1 3 1 4 rfl rfl (by omega)
  rw [show (byteCells (b :: x1 :: x2 :: x3 :: r)).drop (1 * 1) = byteCells (x1 :: x2 :: x3 :: r) from rfl, show (byteCells (x1 :: x2 :: x3 :: r)).take (3 * 1) = byteCells [x1, x2, x3] from by simp [byteCells]] at hs3
  obtain ⟨g3, o3, rfl, hc3⟩ := sl_cell hs3 (by omega)
  have d0 : w.cell? ⟨g3, o3, none⟩ = some (.int .u8 (x1.toNat : Int)) := hc3 0 (by simp)
  have d1 : w.cell? ⟨g3, o3 + 1, none⟩ = some (.int .u8 (x2.toNat : Int)) := hc3 1 (by simp)
  have d2 : w.cell? ⟨g3, o3 + 2, none⟩ = some (.int .u8 (x3.toNat : Int)) := hc3 2 (by simp)
  clear hc3 hs3
  obtain ⟨g, o, rfl, hc⟩ := sl_cell hr (by omega)
  have c0 : w.cell? ⟨g, o, none⟩ = some (.int .u8 (b.toNat : Int)) := hc 0 (by simp)
  clear hc hr hi0 hz0 hz1 hz2
  have hb := b.toNat_lt
  have hx1 := x1.toNat_lt
  have hx2 := x2.toNat_lt
  have hx3 := x3.toNat_lt
  have hand := u8_and63 (b.toNat : Int) (by omega) (by omega)
  have ho1 := or8 ((b.toNat : Int) % 64) (x1.toNat : Int) (by omega) (by omega) (by omega) (by omega)
  have ho2 := or8 (((b.toNat : Int) % 64) * 256 + (x1.toNat : Int)) (x2.toNat : Int) (by omega) (by omega) (by omega) (by omega)
  have ho3 := or8 ((((b.toNat : Int) % 64) * 256 + (x1.toNat : Int)) * 256 + (x2.toNat : Int)) (x3.toNat : Int) (by omega) (by omega) (by omega) (by omega)
  have sz := fun W => size_any (x := ((((b.toNat : Int) % 64) * 256 + (x1.toNat : Int)) * 256 + (x2.toNat : Int)) * 256 + (x3.toNat : Int)) (w := W) (by omega)
  have Hs := Lib.hid sz
  clear sz
  unfold vIs
  by_cases hv : vSize (((((b.toNat : Int) % 64) * 256 + (x1.toNat : Int)) * 256 + (x2.toNat : Int)) * 256 + (x3.toNat : Int)) = 4
  · rw [if_pos hv]
    rw [hv] at Hs
    clear hv
    go_enter Try.func85, Try.ntmps85
    go_wp2_with fail
    refine wp_loop_rounds 5 ?_
    repeat any_goals (rw [rounds_succ]; go_wp2_with fail)
    refine (Hs.out _).mono ?_
    rintro e w1 ⟨rfl, rfl⟩
    go_wp2
    go_ret3
    exact ⟨rfl, rfl⟩
  · rw [if_neg hv]
    have hv2 : ((vSize (((((b.toNat : Int) % 64) * 256 + (x1.toNat : Int)) * 256 + (x2.toNat : Int)) * 256 + (x3.toNat : Int)) : Int) = 4) = False := by simp only [eq_iff_iff, iff_false]; omega
    generalize vSize (((((b.toNat : Int) % 64) * 256 + (x1.toNat : Int)) * 256 + (x2.toNat : Int)) * 256 + (x3.toNat : Int)) = s at *
    go_enter Try.func85, Try.ntmps85
    go_wp2_with fail
    refine wp_loop_rounds 5 ?_
    repeat any_goals (rw [rounds_succ]; go_wp2_with fail)
    refine (Hs.out _).mono ?_
    rintro e w1 ⟨rfl, rfl⟩
    go_wp2
    go_ret3
    exact ⟨rfl, rfl⟩

set_option maxHeartbeats 4000000 in
set_option maxRecDepth 100000 in
theorem get_8 {lo up : Nat} {A : Option Addr} {n c : Nat} {b x1 x2 x3 x4 x5 x6 x7 : UInt8} {r : List UInt8} {w : World} (hr : Sl w lo up 1 A n c (byteCells (b :: x1 :: x2 :: x3 :: x4 :: x5 :: x6 :: x7 :: r))) (q : (b.toNat : Int) / 64 = 3) :
    Calls Try.prog 85 #[.slice A n c] w (RetN w (vIs (((((((((b.toNat : Int) % 64) * 256 + (x1.toNat : Int)) * 256 + (x2.toNat : Int)) * 256 + (x3.toNat : Int)) * 256 + (x4.toNat : Int)) * 256 + (x5.toNat : Int)) * 256 + (x6.toNat : Int)) * 256 + (x7.toNat : Int)) 8)) := by
  have hl : n = r.length + 8 := by have := hr.len; rw [byteCells_length] at this; simp at this; omega
  subst hl
  obtain ⟨i0, hi0, hz0, hz1, hz2⟩ := info_parts info5
  obtain ⟨A3, hcut, hs3⟩ := cut_lh Try.underlying23 hi0 hz1 hr 1 7 1 8 rfl rfl (by omega)
  rw [show (byteCells (b :: x1 :: x2 :: x3 :: x4 :: x5 :: x6 :: x7 :: r)).drop (1 * 1) = byteCells (x1 :: x2 :: x3 :: x4 :: x5 :: x6 :: x7 :: r) from rfl, show (byteCells (x1 :: x2 :: x3 :: x4 :: x5 :: x6 :: x7 :: r)).take (7 * 1) = byteCells [x1, x2, x3, x4, x5, x6, x7] from by simp [byteCells]] at hs3
  obtain ⟨g3, o3, rfl, hc3⟩ := sl_cell hs3 (by omega)
  have d0 : w.cell? ⟨g3, o3, none⟩ = some (.int .u8 (x1.toNat : Int)) := hc3 0 (by simp)
  have d1 : w.cell? ⟨g3, o3 + 1, none⟩ = some (.int .u8 (x2.toNat : Int)) := hc3 1 (by simp)
  have d2 : w.cell? ⟨g3, o3 + 2, none⟩ = some (.int .u8 (x3.toNat : Int)) := hc3 2 (by simp)
  have d3 : w.cell? ⟨g3, o3 + 3, none⟩ = some (.int .u8 (x4.toNat : Int)) := hc3 3 (by simp)
  have d4 : w.cell? ⟨g3, o3 + 4, none⟩ = some (.int .u8 (x5.toNat : Int)) := hc3 4 (by simp)
  have d5 : w.cell? ⟨g3, o3 + 5, none⟩ = some (.int .u8 (x6.toNat : Int)) := hc3 5 (by simp)
  have d6 : w.cell? ⟨g3, o3 + 6, none⟩ = some (.int .u8 (x7.toNat : Int)) := hc3 6 (by simp)
  clear hc3 hs3
  obtain ⟨g, o, rfl, hc⟩ := sl_cell hr (by omega)
  have c0 : w.cell? ⟨g, o, none⟩ = some (.int .u8 (b.toNat : Int)) := hc 0 (by simp)
  clear hc hr hi0 hz0 hz1 hz2
  have hb := b.toNat_lt
  have hx1 := x1.toNat_lt
  have hx2 := x2.toNat_lt
  have hx3 := x3.toNat_lt
  have hx4 := x4.toNat_lt
  have hx5 := x5.toNat_lt
  have hx6 := x6.toNat_lt
  have hx7 := x7.toNat_lt
  have hand := u8_and63 (b.toNat : Int) (by omega) (by omega)
  have ho1 := or8 ((b.toNat : Int) % 64) (x1.toNat : Int) (by omega) (by omega) (by omega) (by omega)
  have ho2 := or8 (((b.toNat : Int) % 64) * 256 + (x1.toNat : Int)) (x2.toNat : Int) (by omega) (by omega) (by omega) (by omega)
  have ho3 := or8 ((((b.toNat : Int) % 64) * 256 + (x1.toNat : Int)) * 256 + (x2.toNat : Int)) (x3.toNat : Int) (by omega) (by omega) (by omega) (by omega)
  have ho4 := or8 (((((b.toNat : Int) % 64) * 256 + (x1.toNat : Int)) * 256 + (x2.toNat : Int)) * 256 + (x3.toNat : Int)) (x4.toNat : Int) (by omega) (by omega) (by omega) (by omega)
  have ho5 := or8 ((((((b.toNat : Int) % 64) * 256 + (x1.toNat : Int)) * 256 + (x2.toNat : Int)) * 256 + (x3.toNat : Int)) * 256 + (x4.toNat : Int)) (x5.toNat : Int) (by omega) (by omega) (by omega) (by omega)
  have ho6 := or8 (((((((b.toNat : Int) % 64) * 256 + (x1.toNat : Int)) * 256 + (x2.toNat : Int)) * 256 + (x3.toNat : Int)) * 256 + (x4.toNat : Int)) * 256 + (x5.toNat : Int)) (x6.toNat : Int) (by omega) (by omega) (by omega) (by omega)
  have ho7 := or8 ((((((((b.toNat : Int) % 64) * 256 + (x1.toNat : Int)) * 256 + (x2.toNat : Int)) * 256 + (x3.toNat : Int)) * 256 + (x4.toNat : Int)) * 256 + (x5.toNat : Int)) * 256 + (x6.toNat : Int)) (x7.toNat : Int) (by omega) (by omega) (by omega) (by omega)
  have sz := fun W => size_any (x := ((((((((b.toNat : Int) % 64) * 256 + (x1.toNat : Int)) * 256 + (x2.toNat : Int)) * 256 + (x3.toNat : Int)) * 256 + (x4.toNat : Int)) * 256 + (x5.toNat : Int)) * 256 + (x6.toNat : Int)) * 256 + (x7.toNat : Int)) (w := W) (by omega)
  have Hs := Lib.hid sz
  clear sz
  unfold vIs
  by_cases hv : vSize (((((((((b.toNat : Int) % 64) * 256 + (x1.toNat : Int)) * 256 + (x2.toNat : Int)) * 256 + (x3.toNat : Int)) * 256 + (x4.toNat : Int)) * 256 + (x5.toNat : Int)) * 256 + (x6.toNat : Int)) * 256 + (x7.toNat : Int)) = 8
  · rw [if_pos hv]
    rw [hv] at Hs
    clear hv
    go_enter Try.func85, Try.ntmps85
    go_wp2_with fail
    refine wp_loop_rounds 9 ?_
    repeat any_goals (rw [rounds_succ]; go_wp2_with fail)
    refine (Hs.out _).mono ?_
    rintro e w1 ⟨rfl, rfl⟩
    go_wp2
    go_ret3
    exact ⟨rfl, rfl⟩
  · rw [if_neg hv]
    have hv2 : ((vSize (((((((((b.toNat : Int) % 64) * 256 + (x1.toNat : Int)) * 256 + (x2.toNat : Int)) * 256 + (x3.toNat : Int)) * 256 + (x4.toNat : Int)) * 256 + (x5.toNat : Int)) * 256 + (x6.toNat : Int)) * 256 + (x7.toNat : Int)) : Int) = 8) = False := by simp only [eq_iff_iff, iff_false]; omega
    generalize vSize (((((((((b.toNat : Int) % 64) * 256 + (x1.toNat : Int)) * 256 + (x2.toNat : Int)) * 256 + (x3.toNat : Int)) * 256 + (x4.toNat : Int)) * 256 + (x5.toNat : Int)) * 256 + (x6.toNat : Int)) * 256 + (x7.toNat : Int)) = s at *
    go_enter Try.func85, Try.ntmps85
    go_wp2_with fail
    refine wp_loop_rounds 9 ?_
    repeat any_goals (rw [rounds_succ]; go_wp2_with fail)
    refine (Hs.out _).mono ?_
    rintro e w1 ⟨rfl, rfl⟩
    go_wp2
    go_ret3
    exact ⟨rfl, rfl⟩

theorem vGet_cons (b : UInt8) (r : List UInt8) : vGet (b :: r) = if r.length + 1 < vTell b then (0, 0, 10) else vIs (vFold ((b.toNat : Int) % 64) (r.take (vTell b - 1))) (vTell b) := rfl

theorem get_any {lo up : Nat} {A : Option Addr} {n c : Nat} {l : List UInt8} {w : World} (hr : Sl w lo up 1 A n c (byteCells l)) : Calls Try.prog 85 #[.slice A n c] w (RetN w (vGet l)) := by
  have hl : n = l.length := by have := hr.len; rw [byteCells_length] at this; omega
  rcases l with _ | ⟨b, r⟩
  · obtain rfl : n = 0 := hl
    exact get_nil
  rw [vGet_cons]
  by_cases h : r.length + 1 < vTell b
  · rw [if_pos h]; exact get_short hr h
  rw [if_neg h]
  rcases tell_cases b with ⟨q, ht⟩ | ⟨q, ht⟩ | ⟨q, ht⟩ | ⟨q, ht⟩ <;> rw [ht] at h ⊢
  · exact get_1 hr q
  · rcases r with _ | ⟨x1, r⟩
    · simp at h
    exact get_2 hr q
  · rcases r with _ | ⟨x1, _ | ⟨x2, _ | ⟨x3, r⟩⟩⟩
    any_goals simp at h
    exact get_4 hr q
  · rcases r with _ | ⟨x1, _ | ⟨x2, _ | ⟨x3, _ | ⟨x4, _ | ⟨x5, _ | ⟨x6, _ | ⟨x7, r⟩⟩⟩⟩⟩⟩⟩
    any_goals simp at h
    exact get_8 hr q
end Go.Proofs.Ytfeeincglijmjaa
