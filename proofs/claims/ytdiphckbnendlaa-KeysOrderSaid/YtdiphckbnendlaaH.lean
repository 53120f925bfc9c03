/- The walks of keys.Take, the document's Take and Same. -/
import Derived.Test.YtdiphckbnendlaaA
namespace Go.Proofs.Ytdiphckbnendlaa
set_option linter.unusedVariables false
open Go.RowKit
attribute [local go_sem ↓] Go.wp_at_zero Go.wp_at_succ

/-- What a number, and bytes of the callee's own, are handed back as. -/
def RetNB (w : World) (f : Int) (l : List UInt8) (e : Ending) (w' : World) : Prop :=
  ∃ A c, e = .returned (.tuple #[.int .i64 f, .slice A l.length c]) ∧ w'.ownsRow w.heap.size 5 1 (.slice A l.length c) l.length (byteCells l) ∧ Below w.heap.size w w'

theorem take_in {lo up : Nat} {g : Int} {k m : Nat} {A : Option Addr} {c : Nat} {l : List UInt8} {w : World} (hr : Sl w lo up 1 A l.length c (byteCells l)) (hup : up ≤ w.heap.size)
    (hg0 : 0 ≤ g) (hg : g ≤ 4611686018427322368) (hg2 : g + k ≤ 4611686018427322368) (hl : l.length ≤ 65535) (hk : k + m = l.length) :
    Calls Try.prog 16 #[.int .i64 (g + k), .int .i64 g, .slice A l.length c] w (RetNB w (g + l.length) (l.drop k)) := by
  obtain ⟨i0, hi0, hz0, hz1, hz2⟩ := info_parts info5
  obtain ⟨A3, hcut, hsl⟩ := cut_l Try.underlying22 hi0 hz1 hr k m (k : Int) rfl hk
  rw [Nat.mul_one, byteCells_drop] at hsl
  have hsub : g + (k : Int) - g = k := by omega
  have h1 : ¬ g + (k : Int) < g := by omega
  have h2 : ¬ g + (l.length : Int) < g + k := by omega
  have hml : m ≤ l.length := by omega
  have hK := Lib.hid hk
  clear hk
  go_enter Try.func16, Try.ntmps16
  go_wp2_with (go_at_call 20; refine (clone_any hsl hup (by omega)).mono ?_; rintro e w' ⟨A', c', rfl, hown, hb⟩)
  all_goals
    go_ret2
    exact ⟨A', c', (by rw [List.length_drop]; rfl), hown, hb⟩

theorem take_out {t g : Int} {A : Option Addr} {n c : Nat} {w : World} (hn : n ≤ 140737488355328)
    (h : t < 0 ∨ g < 0 ∨ 4611686018427322368 < t ∨ 4611686018427322368 < g ∨ 65535 < n ∨ t < g ∨ g + n < t) :
    Calls Try.prog 16 #[.int .i64 t, .int .i64 g, .slice A n c] w (RetNB w t []) := by
  go_enter Try.func16, Try.ntmps16
  go_wp2
  all_goals
    go_ret2
    exact ⟨none, 0, rfl, World.ownsRow_nil _ _ _ _, Below.refl _ _⟩

theorem rtake_in {lo up : Nat} {g : Int} {k m : Nat} {A : Option Addr} {c : Nat} {l : List UInt8} {w : World} (hr : Sl w lo up 1 A l.length c (byteCells l)) (hup : up ≤ w.heap.size)
    (hg0 : 0 ≤ g) (hg : g ≤ 4611686018427322368) (hg2 : g + k ≤ 4611686018427322368) (hl : l.length ≤ 65535) (hk : k + m = l.length) :
    Calls Try.prog 17 #[.int .i64 (g + k), .int .i64 g, .slice A l.length c] w (RetNB w (g + l.length) (l.drop k)) := by
  obtain ⟨i0, hi0, hz0, hz1, hz2⟩ := info_parts info5
  obtain ⟨A3, hcut, hsl⟩ := cut_l Try.underlying22 hi0 hz1 hr k m (k : Int) rfl hk
  rw [Nat.mul_one, byteCells_drop] at hsl
  have hsub : g + (k : Int) - g = k := by omega
  have h1 : ¬ g + (k : Int) < g := by omega
  have h2 : ¬ g + (l.length : Int) < g + k := by omega
  have hml : m ≤ l.length := by omega
  have hlm : (l.drop k).length = m := by rw [List.length_drop]; omega
  have hK := Lib.hid hk
  have hL := Lib.hid hlm
  clear hk hlm
  go_enter Try.func17, Try.ntmps17
  go_wp2_with (at_builtin; refine wpList_append_sl _ rfl (.tmp 48) (.tmp 53) _ rfl w.heap.size 5 i0 _ 1 1 Try.underlying22 hi0 hz0 hz1 hz2 rfl (by omega) (.slice (some ⟨w.heap.size, 0, none⟩) 0 0) 0 [] rfl (own_made rfl (Nat.le_refl _)) lo up A3 m _ _ rfl (hsl.alloc hup _) (byteCells_one _) m (by omega) _ rfl (by unfold maxLen; omega) (by omega) (by simp) ?_; intro A' c' w' hown hg')
  all_goals
    go_ret2
    exact ⟨A', c', (by rw [hL.out]; rfl), (by rw [hL.out]; exact hown), ((Below.refl _ _).alloc (Nat.le_refl _) _).grown hg' (by simp) (fun k hk => by simp [Value.ownBlock] at hk; omega)⟩

theorem rtake_out {t g : Int} {A : Option Addr} {n c : Nat} {w : World} (hn : n ≤ 140737488355328)
    (h : t < 0 ∨ g < 0 ∨ 4611686018427322368 < t ∨ 4611686018427322368 < g ∨ 65535 < n ∨ t < g ∨ g + n < t) :
    Calls Try.prog 17 #[.int .i64 t, .int .i64 g, .slice A n c] w (RetNB w t []) := by
  go_enter Try.func17, Try.ntmps17
  go_wp2
  all_goals
    go_ret2
    exact ⟨none, 0, rfl, World.ownsRow_nil _ _ _ _, Below.refl _ _⟩

/-- Take. -/
def kTake (t g : Int) (l : List UInt8) : Int × List UInt8 :=
  if t < 0 ∨ g < 0 ∨ 4611686018427322368 < t ∨ 4611686018427322368 < g ∨ 65535 < l.length ∨ t < g ∨ g + l.length < t then (t, []) else (g + l.length, l.drop (t - g).toNat)

theorem take_any {lo up : Nat} {t g : Int} {A : Option Addr} {n c : Nat} {l : List UInt8} {w : World} (hr : Sl w lo up 1 A n c (byteCells l)) (hup : up ≤ w.heap.size) (hn : n ≤ 140737488355328) :
    Calls Try.prog 16 #[.int .i64 t, .int .i64 g, .slice A n c] w (RetNB w (kTake t g l).1 (kTake t g l).2) := by
  have hl : n = l.length := by have := hr.len; rw [byteCells_length] at this; omega
  subst hl
  unfold kTake
  by_cases h : t < 0 ∨ g < 0 ∨ 4611686018427322368 < t ∨ 4611686018427322368 < g ∨ 65535 < l.length ∨ t < g ∨ g + l.length < t
  · rw [if_pos h]; exact take_out hn h
  · rw [if_neg h]
    obtain ⟨k, rfl⟩ : ∃ k : Nat, t = g + k := ⟨(t - g).toNat, by omega⟩
    rw [show (g + (k : Int) - g).toNat = k from by omega]
    exact take_in (m := l.length - k) hr hup (by omega) (by omega) (by omega) (by omega) (by omega)
theorem rtake_any {lo up : Nat} {t g : Int} {A : Option Addr} {n c : Nat} {l : List UInt8} {w : World} (hr : Sl w lo up 1 A n c (byteCells l)) (hup : up ≤ w.heap.size) (hn : n ≤ 140737488355328) :
    Calls Try.prog 17 #[.int .i64 t, .int .i64 g, .slice A n c] w (RetNB w (kTake t g l).1 (kTake t g l).2) := by
  have hl : n = l.length := by have := hr.len; rw [byteCells_length] at this; omega
  subst hl
  unfold kTake
  by_cases h : t < 0 ∨ g < 0 ∨ 4611686018427322368 < t ∨ 4611686018427322368 < g ∨ 65535 < l.length ∨ t < g ∨ g + l.length < t
  · rw [if_pos h]; exact rtake_out hn h
  · rw [if_neg h]
    obtain ⟨k, rfl⟩ : ∃ k : Nat, t = g + k := ⟨(t - g).toNat, by omega⟩
    rw [show (g + (k : Int) - g).toNat = k from by omega]
    exact rtake_in (m := l.length - k) hr hup (by omega) (by omega) (by omega) (by omega) (by omega)

/-- Same, of two that are. -/
theorem same_yes {lo up lo2 up2 : Nat} {f : Int} {A A2 : Option Addr} {n c n2 c2 : Nat} {l : List UInt8} {w : World} (hr : Sl w lo up 1 A n c (byteCells l)) (hup : up ≤ w.heap.size) (hr2 : Sl w lo2 up2 1 A2 n2 c2 (byteCells l)) (hup2 : up2 ≤ w.heap.size) :
    Calls Try.prog 13 #[.agg #[.int .i64 f, .slice A n c], .agg #[.int .i64 f, .slice A2 n2 c2]] w fun e w' => e = .returned (.bool true) ∧ Below w.heap.size w w' := by
  have a1 := (hr.alloc hup (.cells #[.int .i64 f, .slice A n c] 24)).alloc (by simp; omega) (.cells #[.int .i64 f, .slice A2 n2 c2] 24)
  have a2 := (hr2.alloc hup2 (.cells #[.int .i64 f, .slice A n c] 24)).alloc (by simp; omega) (.cells #[.int .i64 f, .slice A2 n2 c2] 24)
  have q1 := run_string_of (dst := 9) a1 Try.underlying22 Try.underlying5 Try.underlying9
  have q2 := run_string_of (dst := 9) a2 Try.underlying22 Try.underlying5 Try.underlying9
  clear a1 a2
  go_enter Try.func13, Try.ntmps13
  go_wp2
  go_ret
  exact ⟨rfl, ((Below.refl _ w).alloc (Nat.le_refl _) _).alloc (by simp) _⟩
end Go.Proofs.Ytdiphckbnendlaa
