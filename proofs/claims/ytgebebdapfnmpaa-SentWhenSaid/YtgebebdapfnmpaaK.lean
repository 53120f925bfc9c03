/- The walks of SentTime and SentNone. -/
import Derived.Test.YtgebebdapfnmpaaJ
namespace Go.Proofs.Ytgebebdapfnmpaa
open Go.RowKit
set_option linter.unusedVariables false
set_option linter.unusedSimpArgs false
attribute [local go_sem ↓] Go.wp_at_zero Go.wp_at_succ

theorem filter_mono {α : Type} {f g : α → Bool} : ∀ l : List α, (∀ p ∈ l, f p = true → g p = true) → (l.filter f).length ≤ (l.filter g).length
  | [], _ => Nat.le_refl _
  | p :: l, h => by
    have ih := filter_mono l (fun q hq => h q (List.mem_cons_of_mem _ hq))
    have hp := h p (List.mem_cons_self ..)
    cases hf : f p <;> cases hg : g p <;> simp [hf, hg]
    · exact ih
    · omega
    · rw [hp hf] at hg; cases hg
    · exact ih
theorem tm_id {n : Int} (h0 : 0 ≤ n) (h1 : n ≤ 1099511627776) : tm n = n := by
  unfold tm
  rw [if_neg (by omega), if_pos h1]
theorem lost_mono {x x' y y' t t' : Int} (hx : x ≤ x') (hy : y ≤ y') (ht : t' ≤ t) (l : List Pk) : (l.filter (lostIs x y t)).length ≤ (l.filter (lostIs x' y' t')).length := by
  refine filter_mono l fun p _ h => ?_
  simp only [lostIs, decide_eq_true_eq] at h ⊢
  obtain ⟨h1, h2⟩ := h
  refine ⟨by omega, ?_⟩
  rcases h2 with h2 | h2
  · exact .inl (by omega)
  · exact .inr (by omega)

theorem time_long {A : Option Addr} {n c : Nat} {x y t m : Int} {w : World} (hn : 300 < n) : Calls Try.prog 5 #[.slice A n c, .int .i64 x, .int .u16 y, .int .u16 t, .int .u8 m] w fun e w' => e = .returned (.bool true) ∧ Below w.heap.size w w' := by
  go_enter Try.func5, Try.ntmps5
  go_wp2_with fail
  refine (awake_any _).mono ?_
  rintro e w1 ⟨rfl, bb⟩
  go_wp2
  go_ret
  exact ⟨rfl, bb⟩

theorem time_bad {A : Option Addr} {n c : Nat} {l : List Pk} {x y t m : Int} {w : World} (hr : Sl w 0 w.heap.size 5 A n c (pCells l)) (hn : n ≤ 300) (hl : pWf l) (hg : ¬ pGood l) : Calls Try.prog 5 #[.slice A n c, .int .i64 x, .int .u16 y, .int .u16 t, .int .u8 m] w fun e w' => e = .returned (.bool true) ∧ Below w.heap.size w w' := by
  have hlen : n = l.length := by have := hr.len; rw [pCells_length] at this; omega
  have HC := Lib.hid (fun (W : World) (bb : Below w.heap.size w W) => check_any (hr.below bb (Nat.le_refl _)) bb.size (by omega) hl false (by constructor; intro h; cases h; intro h; exact absurd h.1 hg))
  clear hr hl hg hlen
  go_enter Try.func5, Try.ntmps5
  go_wp2_with fail
  refine (awake_any _).mono ?_
  rintro e w1 ⟨rfl, bb⟩
  have z1 := bb.size
  go_wp2_with fail
  refine (HC.out _ bb).mono ?_
  rintro e w2 ⟨rfl, hb⟩
  have bb := bb.trans (hb.mono z1)
  clear hb HC
  go_wp2
  go_ret
  exact ⟨rfl, bb⟩

theorem time_far {A : Option Addr} {n c : Nat} {l : List Pk} {x y t m : Int} {w : World} (hr : Sl w 0 w.heap.size 5 A n c (pCells l)) (hn : n ≤ 300) (hl : pWf l) (hg : pGood l) (hx : 1152921504606846976 < x) : Calls Try.prog 5 #[.slice A n c, .int .i64 x, .int .u16 y, .int .u16 t, .int .u8 m] w fun e w' => e = .returned (.bool true) ∧ Below w.heap.size w w' := by
  have hlen : n = l.length := by have := hr.len; rw [pCells_length] at this; omega
  have HC := Lib.hid (fun (W : World) (bb : Below w.heap.size w W) => check_any (hr.below bb (Nat.le_refl _)) bb.size (by omega) hl true (by simp only [true_iff]; exact ⟨hg, by omega⟩))
  clear hr hl hg hlen
  go_enter Try.func5, Try.ntmps5
  go_wp2_with fail
  refine (awake_any _).mono ?_
  rintro e w1 ⟨rfl, bb⟩
  have z1 := bb.size
  go_wp2_with fail
  refine (HC.out _ bb).mono ?_
  rintro e w2 ⟨rfl, hb⟩
  have bb := bb.trans (hb.mono z1)
  clear hb HC
  go_wp2
  go_ret
  exact ⟨rfl, bb⟩

/-- Two parts of so many packets are handed back. -/
def RetN (w : World) (a b : Nat) (e : Ending) (w' : World) : Prop := ∃ A1 c1 A2 c2, e = .returned (.tuple #[.slice A1 a c1, .slice A2 b c2]) ∧ Below w.heap.size w w'
theorem lost_n {A : Option Addr} {n c : Nat} {l : List Pk} {w : World} (hr : Sl w 0 w.heap.size 5 A n c (pCells l)) (hn : n ≤ 300) (hl : pWf l) (hok : pOk l) (x y t : Int) (hx : -9223372036854775808 ≤ x ∧ x ≤ 9223372036854775807) (hy : 0 ≤ y ∧ y ≤ 1099511627776) (ht : 0 ≤ t ∧ t ≤ 1099511627776) :
    ∃ a b : Nat, a = (l.filter (lostIs x y t)).length ∧ a ≤ 300 ∧ b ≤ 300 ∧ ∀ W, Below w.heap.size w W → Calls Try.prog 9 #[.slice A n c, .int .i64 x, .int .i64 y, .int .i64 t] W (RetN W a b) := by
  have hlen : n = l.length := by have := hr.len; rw [pCells_length] at this; omega
  refine ⟨_, (l.filter fun p => !lostIs x y t p).length, rfl, by have := List.length_filter_le (lostIs x y t) l; omega, by have := List.length_filter_le (fun p => !lostIs x y t p) l; omega, fun W hb => ?_⟩
  have := lost_any (hr.below hb (Nat.le_refl _)) hb.size (by omega) hl (.inl ⟨hok, rfl⟩) x y t hx
  rw [tm_id hy.1 hy.2, tm_id ht.1 ht.2] at this
  exact this.mono fun e w' ⟨A1, c1, A2, c2, h1, h2, h3, h4⟩ => ⟨A1, c1, A2, c2, h1, h4⟩

set_option maxHeartbeats 4000000 in
theorem time_ok {A : Option Addr} {n c : Nat} {l : List Pk} {x y t m : Int} {w : World} (hr : Sl w 0 w.heap.size 5 A n c (pCells l)) (hn : n ≤ 300) (hl : pWf l) (hg : pGood l)
    (hx : -9223372036854775808 ≤ x ∧ x ≤ 1152921504606846976) (hy : 0 ≤ y ∧ y ≤ 65535) (ht : 0 ≤ t ∧ t ≤ 65535) (hm : 0 ≤ m ∧ m ≤ 255) : Calls Try.prog 5 #[.slice A n c, .int .i64 x, .int .u16 y, .int .u16 t, .int .u8 m] w fun e w' => e = .returned (.bool true) ∧ Below w.heap.size w w' := by
  have hlen : n = l.length := by have := hr.len; rw [pCells_length] at this; omega
  have hok : pOk l := ⟨hg, by omega⟩
  have m1 := lost_mono (x := x) (x' := x) (Int.le_refl _) (show y ≤ y + m from by omega) (Int.le_refl t) l
  have m2 := lost_mono (show x ≤ x + m from by omega) (Int.le_refl y) (Int.le_refl t) l
  have m3 := lost_mono (x := x) (Int.le_refl _) (Int.le_refl y) (show t ≤ t + m from by omega) l
  have HC := Lib.hid (fun (W : World) (bb : Below w.heap.size w W) => check_any (hr.below bb (Nat.le_refl _)) bb.size (by omega) hl true (by simp only [true_iff]; exact hok))
  obtain ⟨a1, b1, e1, u1, v1, C1⟩ := lost_n hr hn hl hok x y t (by omega) (by omega) (by omega)
  obtain ⟨a2, b2, e2, u2, v2, C2⟩ := lost_n hr hn hl hok x (y + m) t (by omega) (by omega) (by omega)
  obtain ⟨a3, b3, e3, u3, v3, C3⟩ := lost_n hr hn hl hok (x + m) y t (by omega) (by omega) (by omega)
  obtain ⟨a4, b4, e4, u4, v4, C4⟩ := lost_n hr hn hl hok x y (t + m) (by omega) (by omega) (by omega)
  rw [← e1, ← e2] at m1
  rw [← e1, ← e3] at m2
  rw [← e1, ← e4] at m3
  have C1 := Lib.hid C1
  have C2 := Lib.hid C2
  have C3 := Lib.hid C3
  have C4 := Lib.hid C4
  clear hr hl hok hg e1 e2 e3 e4 hlen
  go_enter Try.func5, Try.ntmps5
  go_wp2_with fail
  refine (awake_any _).mono ?_
  rintro e w1 ⟨rfl, bb⟩
  have z1 := bb.size
  go_wp2_with fail
  refine (HC.out _ bb).mono ?_
  rintro e w2 ⟨rfl, hb⟩
  have bb := bb.trans (hb.mono z1)
  have z1 := bb.size
  clear hb HC
  go_wp2_with fail
  refine (C1.out _ bb).mono ?_
  rintro e w3 ⟨A1, c1, A2, c2, rfl, hb⟩
  have bb := bb.trans (hb.mono z1)
  have z1 := bb.size
  clear hb C1
  go_wp2_with fail
  refine (C2.out _ bb).mono ?_
  rintro e w4 ⟨A3, c3, A4, c4, rfl, hb⟩
  have bb := bb.trans (hb.mono z1)
  have z1 := bb.size
  clear hb C2
  go_wp2_with fail
  refine (C3.out _ bb).mono ?_
  rintro e w5 ⟨A5, c5, A6, c6, rfl, hb⟩
  have bb := bb.trans (hb.mono z1)
  have z1 := bb.size
  clear hb C3
  go_wp2_with fail
  refine (C4.out _ bb).mono ?_
  rintro e w6 ⟨A7, c7, A8, c8, rfl, hb⟩
  have bb := bb.trans (hb.mono z1)
  clear hb C4
  go_wp2
  go_ret
  exact ⟨rfl, bb⟩
end Go.Proofs.Ytgebebdapfnmpaa
