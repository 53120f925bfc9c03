/- The walk of the document's Get. -/
import Derived.Test.YtfeeincglijmjaaVC
namespace Go.Proofs.Ytfeeincglijmjaa
open Go.RowKit
set_option linter.unusedVariables false
set_option linter.unusedSimpArgs false
attribute [local go_sem ↓] Go.wp_at_zero Go.wp_at_succ

theorem rget_nil {A : Option Addr} {c : Nat} {w : World} : Calls Try.prog 100 #[.slice A 0 c] w (RetN w (0, 0, 10)) := by
  go_enter Try.func100, Try.ntmps100
  go_wp2
  go_ret3
  exact ⟨rfl, rfl⟩

theorem rget_short {lo up : Nat} {A : Option Addr} {n c : Nat} {b : UInt8} {r : List UInt8} {w : World} (hr : Sl w lo up 1 A n c (byteCells (b :: r))) (h : r.length + 1 < vTell b) :
    Calls Try.prog 100 #[.slice A n c] w (RetN w (0, 0, 10)) := by
  have hl : n = r.length + 1 := by have := hr.len; rw [byteCells_length] at this; simp at this; omega
  subst hl
  obtain ⟨g, o, rfl, hc⟩ := sl_cell hr (by omega)
  have c0 := hc 0 (by simp)
  have hlt := b.toNat_lt
  simp only [List.getElem_cons_zero, Nat.add_zero] at c0
  clear hc hr
  rcases tell_cases b with ⟨q, ht⟩ | ⟨q, ht⟩ | ⟨q, ht⟩ | ⟨q, ht⟩ <;> rw [ht] at h
  · omega
  all_goals
    clear ht
    have q2 : Int.tdiv (b.toNat : Int) 64 = (b.toNat : Int) / 64 := Int.tdiv_eq_ediv_of_nonneg (by omega)
    rw [q] at q2
    go_enter Try.func100, Try.ntmps100
    go_wp2
    go_rounds 4
    go_ret3
    exact ⟨rfl, rfl⟩

set_option maxHeartbeats 4000000 in
set_option maxRecDepth 100000 in
theorem rget_1 {lo up : Nat} {A : Option Addr} {n c : Nat} {b : UInt8} {r : List UInt8} {w : World} (hr : Sl w lo up 1 A n c (byteCells (b :: r))) (q : (b.toNat : Int) / 64 = 0) :
    Calls Try.prog 100 #[.slice A n c] w (RetN w (vIs ((b.toNat : Int) % 64) 1)) := by
  have hl : n = r.length + 1 := by have := hr.len; rw [byteCells_length] at this; simp at this; omega
  subst hl
  obtain ⟨g, o, rfl, hc⟩ := sl_cell hr (by omega)
  have c0 : w.cell? ⟨g, o, none⟩ = some (.int .u8 (b.toNat : Int)) := hc 0 (by simp)
  clear hc hr
  have hb := b.toNat_lt
  have q2 : Int.tdiv (b.toNat : Int) 64 = (b.toNat : Int) / 64 := Int.tdiv_eq_ediv_of_nonneg (by omega)
  have q3 : Int.tmod (b.toNat : Int) 64 = (b.toNat : Int) % 64 := Int.tmod_eq_emod_of_nonneg (by omega)
  rw [q] at q2
  have sz := fun W => rsize_any (x := (b.toNat : Int) % 64) (w := W)
  have Hs := Lib.hid sz
  clear sz
  unfold vIs
  by_cases hv : vSize ((b.toNat : Int) % 64) = 1
  · rw [if_pos hv]
    rw [hv] at Hs
    clear hv
    go_enter Try.func100, Try.ntmps100
    go_wp2_with fail
    refine wp_loop_rounds 5 ?_
    repeat any_goals (rw [rounds_succ]; go_wp2_with fail)
    refine wp_loop_rounds 2 ?_
    repeat any_goals (rw [rounds_succ]; go_wp2_with fail)
    refine (Hs.out _).mono ?_
    rintro e w1 ⟨rfl, rfl⟩
    go_wp2
    go_ret3
    exact ⟨rfl, rfl⟩
  · rw [if_neg hv]
    have hv2 : ((vSize ((b.toNat : Int) % 64) : Int) = 1) = False := by simp only [eq_iff_iff, iff_false]; omega
    generalize vSize ((b.toNat : Int) % 64) = s at *
    go_enter Try.func100, Try.ntmps100
    go_wp2_with fail
    refine wp_loop_rounds 5 ?_
    repeat any_goals (rw [rounds_succ]; go_wp2_with fail)
    refine wp_loop_rounds 2 ?_
    repeat any_goals (rw [rounds_succ]; go_wp2_with fail)
    refine (Hs.out _).mono ?_
    rintro e w1 ⟨rfl, rfl⟩
    go_wp2
    go_ret3
    exact ⟨rfl, rfl⟩

set_option maxHeartbeats 4000000 in
set_option maxRecDepth 100000 in
theorem rget_2 {lo up : Nat} {A : Option Addr} {n c : Nat} {b x1 : UInt8} {r : List UInt8} {w : World} (hr : Sl w lo up 1 A n c (byteCells (b :: x1 :: r))) (q : (b.toNat : Int) / 64 = 1) :
    Calls Try.prog 100 #[.slice A n c] w (RetN w (vIs (((b.toNat : Int) % 64) * 256 + (x1.toNat : Int)) 2)) := by
  have hl : n = r.length + 2 := by have := hr.len; rw [byteCells_length] at this; simp at this; omega
  subst hl
  obtain ⟨g, o, rfl, hc⟩ := sl_cell hr (by omega)
  have c0 : w.cell? ⟨g, o, none⟩ = some (.int .u8 (b.toNat : Int)) := hc 0 (by simp)
  have c1 : w.cell? ⟨g, o + 1, none⟩ = some (.int .u8 (x1.toNat : Int)) := hc 1 (by simp)
  clear hc hr
  have hb := b.toNat_lt
  have hx1 := x1.toNat_lt
  rw [show ((b.toNat : Int) % 64) * 256 + (x1.toNat : Int) = 256 * ((b.toNat : Int) % 64) + (x1.toNat : Int) from by omega]
  have q2 : Int.tdiv (b.toNat : Int) 64 = (b.toNat : Int) / 64 := Int.tdiv_eq_ediv_of_nonneg (by omega)
  have q3 : Int.tmod (b.toNat : Int) 64 = (b.toNat : Int) % 64 := Int.tmod_eq_emod_of_nonneg (by omega)
  rw [q] at q2
  have sz := fun W => rsize_any (x := 256 * ((b.toNat : Int) % 64) + (x1.toNat : Int)) (w := W)
  have Hs := Lib.hid sz
  clear sz
  unfold vIs
  by_cases hv : vSize (256 * ((b.toNat : Int) % 64) + (x1.toNat : Int)) = 2
  · rw [if_pos hv]
    rw [hv] at Hs
    clear hv
    go_enter Try.func100, Try.ntmps100
    go_wp2_with fail
    refine wp_loop_rounds 5 ?_
    repeat any_goals (rw [rounds_succ]; go_wp2_with fail)
    refine wp_loop_rounds 3 ?_
    repeat any_goals (rw [rounds_succ]; go_wp2_with fail)
    refine (Hs.out _).mono ?_
    rintro e w1 ⟨rfl, rfl⟩
    go_wp2
    go_ret3
    exact ⟨rfl, rfl⟩
  · rw [if_neg hv]
    have hv2 : ((vSize (256 * ((b.toNat : Int) % 64) + (x1.toNat : Int)) : Int) = 2) = False := by simp only [eq_iff_iff, iff_false]; omega
    generalize vSize (256 * ((b.toNat : Int) % 64) + (x1.toNat : Int)) = s at *
    go_enter Try.func100, Try.ntmps100
    go_wp2_with fail
    refine wp_loop_rounds 5 ?_
    repeat any_goals (rw [rounds_succ]; go_wp2_with fail)
    refine wp_loop_rounds 3 ?_
    repeat any_goals (rw [rounds_succ]; go_wp2_with fail)
    refine (Hs.out _).mono ?_
    rintro e w1 ⟨rfl, rfl⟩
    go_wp2
    go_ret3
    exact ⟨rfl, rfl⟩

set_option maxHeartbeats 4000000 in
set_option maxRecDepth 100000 in
theorem rget_4 {lo up : Nat} {A : Option Addr} {n c : Nat} {b x1 x2 x3 : UInt8} {r : List UInt8} {w : World} (hr : Sl w lo up 1 A n c (byteCells (b :: x1 :: x2 :: x3 :: r))) (q : (b.toNat : Int) / 64 = 2) :
    Calls Try.prog 100 #[.slice A n c] w (RetN w (vIs (((((b.toNat : Int) % 64) * 256 + (x1.toNat : Int)) * 256 + (x2.toNat : Int)) * 256 + (x3.toNat : Int)) 4)) := by
  have hl : n = r.length + 4 := by have := hr.len; rw [byteCells_length] at this; simp at this; omega
  subst hl
  obtain ⟨g, o, rfl, hc⟩ := sl_cell hr (by omega)
  have c0 : w.cell? ⟨g, o, none⟩ = some (.int .u8 (b.toNat : Int)) := hc 0 (by simp)
  have c1 : w.cell? ⟨g, o + 1, none⟩ = some (.int .u8 (x1.toNat : Int)) := hc 1 (by simp)
  have c2 : w.cell? ⟨g, o + 2, none⟩ = some (.int .u8 (x2.toNat : Int)) := hc 2 (by simp)
  have c3 : w.cell? ⟨g, o + 3, none⟩ = some (.int .u8 (x3.toNat : Int)) := hc 3 (by simp)
  clear hc hr
  have hb := b.toNat_lt
  have hx1 := x1.toNat_lt
  have hx2 := x2.toNat_lt
  have hx3 := x3.toNat_lt
  rw [show ((((b.toNat : Int) % 64) * 256 + (x1.toNat : Int)) * 256 + (x2.toNat : Int)) * 256 + (x3.toNat : Int) = 256 * (256 * (256 * ((b.toNat : Int) % 64) + (x1.toNat : Int)) + (x2.toNat : Int)) + (x3.toNat : Int) from by omega]
  have q2 : Int.tdiv (b.toNat : Int) 64 = (b.toNat : Int) / 64 := Int.tdiv_eq_ediv_of_nonneg (by omega)
  have q3 : Int.tmod (b.toNat : Int) 64 = (b.toNat : Int) % 64 := Int.tmod_eq_emod_of_nonneg (by omega)
  rw [q] at q2
  have sz := fun W => rsize_any (x := 256 * (256 * (256 * ((b.toNat : Int) % 64) + (x1.toNat : Int)) + (x2.toNat : Int)) + (x3.toNat : Int)) (w := W)
  have Hs := Lib.hid sz
  clear sz
  unfold vIs
  by_cases hv : vSize (256 * (256 * (256 * ((b.toNat : Int) % 64) + (x1.toNat : Int)) + (x2.toNat : Int)) + (x3.toNat : Int)) = 4
  · rw [if_pos hv]
    rw [hv] at Hs
    clear hv
    go_enter Try.func100, Try.ntmps100
    go_wp2_with fail
    refine wp_loop_rounds 5 ?_
    repeat any_goals (rw [rounds_succ]; go_wp2_with fail)
    refine wp_loop_rounds 5 ?_
    repeat any_goals (rw [rounds_succ]; go_wp2_with fail)
    refine (Hs.out _).mono ?_
    rintro e w1 ⟨rfl, rfl⟩
    go_wp2
    go_ret3
    exact ⟨rfl, rfl⟩
  · rw [if_neg hv]
    have hv2 : ((vSize (256 * (256 * (256 * ((b.toNat : Int) % 64) + (x1.toNat : Int)) + (x2.toNat : Int)) + (x3.toNat : Int)) : Int) = 4) = False := by simp only [eq_iff_iff, iff_false]; omega
    generalize vSize (256 * (256 * (256 * ((b.toNat : Int) % 64) + (x1.toNat : Int)) + (x2.toNat : Int)) + (x3.toNat : Int)) = s at *
    go_enter Try.func100, Try.ntmps100
    go_wp2_with fail
    refine wp_loop_rounds 5 ?_
    repeat any_goals (rw [rounds_succ]; go_wp2_with fail)
    refine wp_loop_rounds 5 ?_
    repeat any_goals (rw [rounds_succ]; go_wp2_with fail)
    refine (Hs.out _).mono ?_
    rintro e w1 ⟨rfl, rfl⟩
    go_wp2
    go_ret3
    exact ⟨rfl, rfl⟩

set_option maxHeartbeats 4000000 in
set_option maxRecDepth 100000 in
theorem rget_8 {lo up : Nat} {A : Option Addr} {n c : Nat} {b x1 x2 x3 x4 x5 x6 x7 : UInt8} {r : List UInt8} {w : World} (hr : Sl w lo up 1 A n c (byteCells (b :: x1 :: x2 :: x3 :: x4 :: x5 :: x6 :: x7 :: r))) (q : (b.toNat : Int) / 64 = 3) :
    Calls Try.prog 100 #[.slice A n c] w (RetN w (vIs (((((((((b.toNat : Int) % 64) * 256 + (x1.toNat : Int)) * 256 + (x2.toNat : Int)) * 256 + (x3.toNat : Int)) * 256 + (x4.toNat : Int)) * 256 + (x5.toNat : Int)) * 256 + (x6.toNat : Int)) * 256 + (x7.toNat : Int)) 8)) := by
  have hl : n = r.length + 8 := by have := hr.len; rw [byteCells_length] at this; simp at this; omega
  subst hl
  obtain ⟨g, o, rfl, hc⟩ := sl_cell hr (by omega)
  have c0 : w.cell? ⟨g, o, none⟩ = some (.int .u8 (b.toNat : Int)) := hc 0 (by simp)
  have c1 : w.cell? ⟨g, o + 1, none⟩ = some (.int .u8 (x1.toNat : Int)) := hc 1 (by simp)
  have c2 : w.cell? ⟨g, o + 2, none⟩ = some (.int .u8 (x2.toNat : Int)) := hc 2 (by simp)
  have c3 : w.cell? ⟨g, o + 3, none⟩ = some (.int .u8 (x3.toNat : Int)) := hc 3 (by simp)
  have c4 : w.cell? ⟨g, o + 4, none⟩ = some (.int .u8 (x4.toNat : Int)) := hc 4 (by simp)
  have c5 : w.cell? ⟨g, o + 5, none⟩ = some (.int .u8 (x5.toNat : Int)) := hc 5 (by simp)
  have c6 : w.cell? ⟨g, o + 6, none⟩ = some (.int .u8 (x6.toNat : Int)) := hc 6 (by simp)
  have c7 : w.cell? ⟨g, o + 7, none⟩ = some (.int .u8 (x7.toNat : Int)) := hc 7 (by simp)
  clear hc hr
  have hb := b.toNat_lt
  have hx1 := x1.toNat_lt
  have hx2 := x2.toNat_lt
  have hx3 := x3.toNat_lt
  have hx4 := x4.toNat_lt
  have hx5 := x5.toNat_lt
  have hx6 := x6.toNat_lt
  have hx7 := x7.toNat_lt
  rw [show ((((((((b.toNat : Int) % 64) * 256 + (x1.toNat : Int)) * 256 + (x2.toNat : Int)) * 256 + (x3.toNat : Int)) * 256 + (x4.toNat : Int)) * 256 + (x5.toNat : Int)) * 256 + (x6.toNat : Int)) * 256 + (x7.toNat : Int) = 256 * (256 * (256 * (256 * (256 * (256 * (256 * ((b.toNat : Int) % 64) + (x1.toNat : Int)) + (x2.toNat : Int)) + (x3.toNat : Int)) + (x4.toNat : Int)) + (x5.toNat : Int)) + (x6.toNat : Int)) + (x7.toNat : Int) from by omega]
  have q2 : Int.tdiv (b.toNat : Int) 64 = (b.toNat : Int) / 64 := Int.tdiv_eq_ediv_of_nonneg (by omega)
  have q3 : Int.tmod (b.toNat : Int) 64 = (b.toNat : Int) % 64 := Int.tmod_eq_emod_of_nonneg (by omega)
  rw [q] at q2
  have sz := fun W => rsize_any (x := 256 * (256 * (256 * (256 * (256 * (256 * (256 * ((b.toNat : Int) % 64) + (x1.toNat : Int)) + (x2.toNat : Int)) + (x3.toNat : Int)) + (x4.toNat : Int)) + (x5.toNat : Int)) + (x6.toNat : Int)) + (x7.toNat : Int)) (w := W)
  have Hs := Lib.hid sz
  clear sz
  unfold vIs
  by_cases hv : vSize (256 * (256 * (256 * (256 * (256 * (256 * (256 * ((b.toNat : Int) % 64) + (x1.toNat : Int)) + (x2.toNat : Int)) + (x3.toNat : Int)) + (x4.toNat : Int)) + (x5.toNat : Int)) + (x6.toNat : Int)) + (x7.toNat : Int)) = 8
  · rw [if_pos hv]
    rw [hv] at Hs
    clear hv
    go_enter Try.func100, Try.ntmps100
    go_wp2_with fail
    refine wp_loop_rounds 5 ?_
    repeat any_goals (rw [rounds_succ]; go_wp2_with fail)
    refine wp_loop_rounds 9 ?_
    repeat any_goals (rw [rounds_succ]; go_wp2_with fail)
    refine (Hs.out _).mono ?_
    rintro e w1 ⟨rfl, rfl⟩
    go_wp2
    go_ret3
    exact ⟨rfl, rfl⟩
  · rw [if_neg hv]
    have hv2 : ((vSize (256 * (256 * (256 * (256 * (256 * (256 * (256 * ((b.toNat : Int) % 64) + (x1.toNat : Int)) + (x2.toNat : Int)) + (x3.toNat : Int)) + (x4.toNat : Int)) + (x5.toNat : Int)) + (x6.toNat : Int)) + (x7.toNat : Int)) : Int) = 8) = False := by simp only [eq_iff_iff, iff_false]; omega
    generalize vSize (256 * (256 * (256 * (256 * (256 * (256 * (256 * ((b.toNat : Int) % 64) + (x1.toNat : Int)) + (x2.toNat : Int)) + (x3.toNat : Int)) + (x4.toNat : Int)) + (x5.toNat : Int)) + (x6.toNat : Int)) + (x7.toNat : Int)) = s at *
    go_enter Try.func100, Try.ntmps100
    go_wp2_with fail
    refine wp_loop_rounds 5 ?_
    repeat any_goals (rw [rounds_succ]; go_wp2_with fail)
    refine wp_loop_rounds 9 ?_
    repeat any_goals (rw [rounds_succ]; go_wp2_with fail)
    refine (Hs.out _).mono ?_
    rintro e w1 ⟨rfl, rfl⟩
    go_wp2
    go_ret3
    exact ⟨rfl, rfl⟩

theorem rget_any {lo up : Nat} {A : Option Addr} {n c : Nat} {l : List UInt8} {w : World} (hr : Sl w lo up 1 A n c (byteCells l)) : Calls Try.prog 100 #[.slice A n c] w (RetN w (vGet l)) := by
  have hl : n = l.length := by have := hr.len; rw [byteCells_length] at this; omega
  rcases l with _ | ⟨b, r⟩
  · obtain rfl : n = 0 := hl
    exact rget_nil
  rw [vGet_cons]
  by_cases h : r.length + 1 < vTell b
  · rw [if_pos h]; exact rget_short hr h
  rw [if_neg h]
  rcases tell_cases b with ⟨q, ht⟩ | ⟨q, ht⟩ | ⟨q, ht⟩ | ⟨q, ht⟩ <;> rw [ht] at h ⊢
  · exact rget_1 hr q
  · rcases r with _ | ⟨x1, r⟩
    · simp at h
    exact rget_2 hr q
  · rcases r with _ | ⟨x1, _ | ⟨x2, _ | ⟨x3, r⟩⟩⟩
    any_goals simp at h
    exact rget_4 hr q
  · rcases r with _ | ⟨x1, _ | ⟨x2, _ | ⟨x3, _ | ⟨x4, _ | ⟨x5, _ | ⟨x6, _ | ⟨x7, r⟩⟩⟩⟩⟩⟩⟩
    any_goals simp at h
    exact rget_8 hr q
end Go.Proofs.Ytfeeincglijmjaa
