/- Texts of this seat, one behind the other. -/
import Derived.Test.YtfeeincglijmjaaZB6
import Derived.Test.YtfeeincglijmjaaGM
namespace Go.Proofs.Ytfeeincglijmjaa
open Go.RowKit
set_option linter.unusedVariables false
set_option linter.unusedSimpArgs false
attribute [local go_sem ↓] Go.wp_at_zero Go.wp_at_succ

/-- A screen's bits, as a number. -/
def dBits (s : Scr) : Int := (if s.wr then 1 else 0) + (if s.au then 2 else 0) + (if s.hi then 4 else 0) + (if s.al then 8 else 0)
/-- A screen's head. -/
def dHead (s : Scr) : List Int := [s.W, s.H, s.X, s.Y, s.At, s.Tp, s.Bt, dBits s, s.s0, s.s1, s.s2]

set_option maxHeartbeats 8000000 in
set_option maxRecDepth 100000 in
theorem bits_any {s : Scr} {C M : Option Addr} {cc cm : Nat} {w : World} :
    Calls Try.prog 90 #[.agg (s.v C cc M cm)] w fun e w' => e = .returned (.int .i64 (dBits s)) ∧ Below w.heap.size w w' := by
  obtain ⟨W, H, X, Y, At, Tp, Bt, wr, au, hi, al, s0, s1, s2, cs, ms⟩ := s
  unfold Scr.v dBits
  simp only
  have hb := fun (w : World) => run_build (P := Try.prog) w 142 #[(0, .bool wr), (1, .bool au), (2, .bool hi), (3, .bool al)] #[.bool wr, .bool au, .bool hi, .bool al] (by kernel_rfl)
  have i0 : ∀ w, (Instr.index 142 (.agg #[.bool wr, .bool au, .bool hi, .bool al]) (.int .i64 0)).run Try.prog w = .ok (.bool wr) w := fun _ => by kernel_rfl
  have i1 : ∀ w, (Instr.index 142 (.agg #[.bool wr, .bool au, .bool hi, .bool al]) (.int .i64 1)).run Try.prog w = .ok (.bool au) w := fun _ => by kernel_rfl
  have i2 : ∀ w, (Instr.index 142 (.agg #[.bool wr, .bool au, .bool hi, .bool al]) (.int .i64 2)).run Try.prog w = .ok (.bool hi) w := fun _ => by kernel_rfl
  have i3 : ∀ w, (Instr.index 142 (.agg #[.bool wr, .bool au, .bool hi, .bool al]) (.int .i64 3)).run Try.prog w = .ok (.bool al) w := fun _ => by kernel_rfl
  have bb := (Below.refl w.heap.size w).alloc (Nat.le_refl _) (.cells #[.int .i64 W, .int .i64 H, .slice C cs.length cc, .int .i64 X, .int .i64 Y, .int .i64 At, .int .i64 Tp, .int .i64 Bt, .bool wr, .bool au, .bool hi, .bool al, .int .i64 s0, .int .i64 s1, .int .i64 s2, .slice M ms.length cm] 35)
  cases wr <;> cases au <;> cases hi <;> cases al
  all_goals
    go_enter Try.func90, Try.ntmps90
    go_wp2_with fail
    go_rounds 5
    go_ret
    exact ⟨rfl, bb⟩

set_option maxHeartbeats 8000000 in
set_option maxRecDepth 100000 in
theorem grounds_other {s : Scr} {C M : Option Addr} {cc cm : Nat} {a b : Int} {n : Nat} {w : World} (hn : a * b = n) (hn2 : n ≤ 4096) (ho : ¬ (s.W = a ∧ s.H = b)) :
    Calls Try.prog 56 #[.agg (s.v C cc M cm), .int .i64 a, .int .i64 b] w fun e w' => ∃ A1 c1, e = .returned (.tuple #[.slice A1 n c1, .slice A1 n c1]) ∧ Sl w' w.heap.size w'.heap.size 2 A1 n c1 (cCells (blanks n)) ∧ Below w.heap.size w w' := by
  obtain ⟨W, H, X, Y, At, Tp, Bt, wr, au, hi, al, s0, s1, s2, cs, ms⟩ := s
  unfold Scr.v
  simp only at ho ⊢
  have HR := Lib.hid (fun W lo up A c h1 h2 => repeat_any (n := n) (w := W) (lo := lo) (up := up) (A := A) (c := c) h1 h2 hn2)
  have hw : IntKind.i64.wrap (a * b) = n := by rw [hn]; rw [IntKind.wrap_i64]; omega
  have bb := (Below.refl w.heap.size w).alloc (Nat.le_refl _) (.cells #[.int .i64 W, .int .i64 H, .slice C cs.length cc, .int .i64 X, .int .i64 Y, .int .i64 At, .int .i64 Tp, .int .i64 Bt, .bool wr, .bool au, .bool hi, .bool al, .int .i64 s0, .int .i64 s1, .int .i64 s2, .slice M ms.length cm] 35)
  have hbl := fun (w : World) => run_build (P := Try.prog) w 64 #[(0, .int .i64 32)] #[.int .i64 32, .int .i64 0] (by kernel_rfl)
  have s1' := Sl.new (g := w.heap.size + 1) (w.alloc (.cells #[.int .i64 W, .int .i64 H, .slice C cs.length cc, .int .i64 X, .int .i64 Y, .int .i64 At, .int .i64 Tp, .int .i64 Bt, .bool wr, .bool au, .bool hi, .bool al, .int .i64 s0, .int .i64 s1, .int .i64 s2, .slice M ms.length cm] 35)) 64 #[.int .i64 32, .int .i64 0] 2 1 1 (cCells [(32, 0)]) (by simp) (Nat.le_refl _) rfl rfl
  have bz := (Blk.new w 35 #[.int .i64 W, .int .i64 H, .slice C cs.length cc, .int .i64 X, .int .i64 Y, .int .i64 At, .int .i64 Tp, .int .i64 Bt, .bool wr, .bool au, .bool hi, .bool al, .int .i64 s0, .int .i64 s1, .int .i64 s2, .slice M ms.length cm] rfl).alloc (.cells #[.int .i64 32, .int .i64 0] 64)
  have ho2 : (W == a) = false ∨ ((W == a) = true ∧ (H == b) = false) := by
    by_cases h1 : W = a
    · exact .inr ⟨by simp [h1], by simp only [beq_eq_false_iff_ne]; exact fun h2 => ho ⟨h1, h2⟩⟩
    · exact .inl (by simp only [beq_eq_false_iff_ne]; exact h1)
  clear hn ho
  rcases ho2 with h1 | ⟨h1, h2⟩
  all_goals
    go_enter Try.func56, Try.ntmps56
    go_wp2_with fail
    refine (HR.out _ _ _ _ _ s1' (by simp)).mono ?_
    rintro e w3 ⟨A, c, rfl, hown, b3⟩
    have bz3 := bz.later b3
    have bb3 := (bb.alloc (by simp) (.cells #[.int .i64 32, .int .i64 0] 64)).trans (b3.mono (by simp; omega))
    have hs := (Sl.of_own hown).more (lo' := w.heap.size) (by simp; omega) (Nat.le_refl _)
    rw [blanks_length] at hs
    simp only [blanks_length]
    clear b3 hown bb bz
    have ⟨kc, ke⟩ := bz3.rules
    go_wp2
    go_ret2
    exact ⟨A, c, rfl, hs, bb3⟩

/-- What places are told from. -/
def dGround (s : Scr) (a b : Int) : List (Int × Int) × List (Int × Int) :=
  if s.W = a ∧ s.H = b then (s.cs, if s.al then s.ms else blanks (a * b).toNat) else (blanks (a * b).toNat, blanks (a * b).toNat)
/-- What two slices of places are handed back as. -/
def RetG (w : World) (l m : List (Int × Int)) (e : Ending) (w' : World) : Prop :=
  ∃ A1 c1 A2 c2, e = .returned (.tuple #[.slice A1 l.length c1, .slice A2 m.length c2]) ∧ Sl w' 0 w'.heap.size 2 A1 l.length c1 (cCells l) ∧ Sl w' 0 w'.heap.size 2 A2 m.length c2 (cCells m) ∧ Below w.heap.size w w'

set_option maxHeartbeats 8000000 in
set_option maxRecDepth 100000 in
theorem grounds_same {lo up : Nat} {s : Scr} {C M : Option Addr} {cc cm : Nat} {n : Nat} {w : World} (hat : ScrAt w lo up s C cc M cm) (hup : up ≤ w.heap.size) (hn : s.W * s.H = n) (hn2 : n ≤ 4096) :
    Calls Try.prog 56 #[.agg (s.v C cc M cm), .int .i64 s.W, .int .i64 s.H] w (RetG w s.cs (if s.al then s.ms else blanks n)) := by
  have HC := Lib.hid hat.c
  have HMm := Lib.hid hat.m
  clear hat
  obtain ⟨W, H, X, Y, At, Tp, Bt, wr, au, hi, al, s0, s1, s2, cs, ms⟩ := s
  unfold Scr.v
  simp only at hn HC HMm ⊢
  have HR := Lib.hid (fun W lo up A c h1 h2 => repeat_any (n := n) (w := W) (lo := lo) (up := up) (A := A) (c := c) h1 h2 hn2)
  have hw : IntKind.i64.wrap (W * H) = n := by rw [hn]; rw [IntKind.wrap_i64]; omega
  have bb := (Below.refl w.heap.size w).alloc (Nat.le_refl _) (.cells #[.int .i64 W, .int .i64 H, .slice C cs.length cc, .int .i64 X, .int .i64 Y, .int .i64 At, .int .i64 Tp, .int .i64 Bt, .bool wr, .bool au, .bool hi, .bool al, .int .i64 s0, .int .i64 s1, .int .i64 s2, .slice M ms.length cm] 35)
  have hbl := fun (w : World) => run_build (P := Try.prog) w 64 #[(0, .int .i64 32)] #[.int .i64 32, .int .i64 0] (by kernel_rfl)
  have s1' := Sl.new (g := w.heap.size + 1) (w.alloc (.cells #[.int .i64 W, .int .i64 H, .slice C cs.length cc, .int .i64 X, .int .i64 Y, .int .i64 At, .int .i64 Tp, .int .i64 Bt, .bool wr, .bool au, .bool hi, .bool al, .int .i64 s0, .int .i64 s1, .int .i64 s2, .slice M ms.length cm] 35)) 64 #[.int .i64 32, .int .i64 0] 2 1 1 (cCells [(32, 0)]) (by simp) (Nat.le_refl _) rfl rfl
  have bz := (Blk.new w 35 #[.int .i64 W, .int .i64 H, .slice C cs.length cc, .int .i64 X, .int .i64 Y, .int .i64 At, .int .i64 Tp, .int .i64 Bt, .bool wr, .bool au, .bool hi, .bool al, .int .i64 s0, .int .i64 s1, .int .i64 s2, .slice M ms.length cm] rfl).alloc (.cells #[.int .i64 32, .int .i64 0] 64)
  clear hn
  cases al
  · simp only [Bool.false_eq_true, if_false]
    go_enter Try.func56, Try.ntmps56
    go_wp2_with fail
    refine (HR.out _ _ _ _ _ s1' (by simp)).mono ?_
    rintro e w3 ⟨A, c, rfl, hown, b3⟩
    have bz3 := bz.later b3
    have bb3 := (bb.alloc (by simp) (.cells #[.int .i64 32, .int .i64 0] 64)).trans (b3.mono (by simp; omega))
    have hs := (Sl.of_own hown).more (lo' := 0) (Nat.zero_le _) (Nat.le_refl _)
    simp only [blanks_length] at hs ⊢
    clear b3 hown bb bz
    have ⟨kc, ke⟩ := bz3.rules
    have hz3 := bb3.size
    go_wp2
    go_ret2
    exact ⟨C, cc, A, c, by rw [blanks_length]; rfl, (HC.out.below bb3 hup).more (Nat.zero_le _) (by omega), by rw [blanks_length]; exact hs, bb3⟩
  · simp only [if_true]
    go_enter Try.func56, Try.ntmps56
    go_wp2_with fail
    refine (HR.out _ _ _ _ _ s1' (by simp)).mono ?_
    rintro e w3 ⟨A, c, rfl, hown, b3⟩
    have bz3 := bz.later b3
    have bb3 := (bb.alloc (by simp) (.cells #[.int .i64 32, .int .i64 0] 64)).trans (b3.mono (by simp; omega))
    clear b3 hown bb bz
    have ⟨kc, ke⟩ := bz3.rules
    have hz3 := bb3.size
    go_wp2
    go_ret2
    exact ⟨C, cc, M, cm, rfl, (HC.out.below bb3 hup).more (Nat.zero_le _) (by omega), (HMm.out.below bb3 hup).more (Nat.zero_le _) (by omega), bb3⟩
theorem grounds_any {lo up : Nat} {s : Scr} {C M : Option Addr} {cc cm : Nat} {a b : Int} {w : World} (hat : ScrAt w lo up s C cc M cm) (hup : up ≤ w.heap.size) (hn : 0 ≤ a * b ∧ a * b ≤ 4096) :
    Calls Try.prog 56 #[.agg (s.v C cc M cm), .int .i64 a, .int .i64 b] w (RetG w (dGround s a b).1 (dGround s a b).2) := by
  unfold dGround
  by_cases h : s.W = a ∧ s.H = b
  · rw [if_pos h]
    obtain ⟨rfl, rfl⟩ := h
    exact grounds_same hat hup (n := (s.W * s.H).toNat) (by omega) (by omega)
  · rw [if_neg h]
    refine (grounds_other (C := C) (M := M) (cc := cc) (cm := cm) (w := w) (n := (a * b).toNat) (by omega) (by omega) h).mono ?_
    rintro e w' ⟨A, c, rfl, hs, hb⟩
    exact ⟨A, c, A, c, by simp only [blanks_length], by rw [blanks_length]; exact hs.more (Nat.zero_le _) (Nat.le_refl _), by rw [blanks_length]; exact hs.more (Nat.zero_le _) (Nat.le_refl _), hb⟩
end Go.Proofs.Ytfeeincglijmjaa
