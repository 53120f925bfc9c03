/- The walks of both Checks of screens. -/
import Derived.Test.YtfeeincglijmjaaGA
namespace Go.Proofs.Ytfeeincglijmjaa
open Go.RowKit
set_option linter.unusedVariables false
set_option linter.unusedSimpArgs false
attribute [local go_sem ↓] Go.wp_at_zero Go.wp_at_succ

theorem below_drewN {B : Nat} {a w : World} (h : Below B a w) (k : Nat) : Below B a (w.drewN k) := ⟨h.os, h.tape, h.output, h.size, h.block⟩

set_option maxHeartbeats 4000000 in
set_option maxRecDepth 100000 in
theorem cells_is {lo up : Nat} {A : Option Addr} {n c : Nat} {l : List (Int × Int)} {m : Int} {w : World} (hr : Sl w lo up 2 A n c (cCells l)) (hup : up ≤ w.heap.size) (hn : n ≤ 9223372036854775807) (B : Bool) (hB : mayB l m = B) :
    Calls Try.prog 93 #[.slice A n c, .int .i64 m] w fun e w' => e = .returned (.bool B) ∧ Below w.heap.size w w' := by
  have hlen := slc_len hr
  subst hlen
  unfold mayB at hB
  by_cases hm : (l.length : Int) = m
  rotate_left
  · have d0 : decide ((l.length : Int) = m) = false := by simpa using hm
    rw [d0] at hB
    obtain rfl : false = B := hB
    have d1 : ((l.length : Int) == m) = false := by simpa using hm
    have d2 : ((l.length : Int) != m) = true := by simpa using hm
    clear d0 hm hr
    go_enter Try.func93, Try.ntmps93
    go_wp2
    go_ret
    exact ⟨rfl, Below.refl _ _⟩
  subst hm
  have d0 : decide ((l.length : Int) = (l.length : Int)) = true := by simp
  rw [d0, Bool.true_and] at hB
  clear d0
  have HB := Lib.hid hB
  have HR := Lib.hid hr
  clear hr hB
  go_enter Try.func93, Try.ntmps93
  go_wp2_with fail
  go_loopg [5] l.length (fun gh s5 wr => ∃ i : Nat, gh = l.length - i ∧ i ≤ l.length ∧ s5 = .int .i64 i ∧ Below w.heap.size w wr ∧ Hid (∀ j (h : j < l.length), j < i → cOk l[j] = true))
  case atStart => exact ⟨0, by omega, by omega, rfl, Below.refl _ _, Lib.hid (fun _ _ h => absurd h (by omega))⟩
  case round =>
    obtain ⟨i, hg, hi, rfl, bb, hno⟩ := hrel
    have z0 := bb.size
    by_cases h : i < l.length
    · obtain ⟨b, o, rfl, hgu, hc⟩ := slc_cell (HR.out.below bb hup) (by omega)
      have k1 := (hc i h).1
      have k2 := (hc i h).2
      have a1 := addr_add b o (i * 2)
      have HG := Lib.hid hg
      clear hg
      cases hp : cOk l[i]
      · have hall : l.all cOk = false := by
          rw [List.all_eq_false]
          exact ⟨l[i], List.getElem_mem h, by simp [hp]⟩
        obtain rfl : false = B := hall.symm.trans HB.out
        unfold cOk at hp
        clear hno hc hall HB
        generalize l[i].1 = x at *
        generalize l[i].2 = y at *
        simp only [Bool.and_eq_false_iff, inB_false] at hp
        by_cases b1 : x < 32
        · go_wp2_with fail
          go_ret
          exact ⟨rfl, bb⟩
        · by_cases b2 : 1114111 < x
          · go_wp2_with fail
            go_ret
            exact ⟨rfl, bb⟩
          · by_cases b3 : y < 0
            · clear hp
              go_wp2_with fail
              go_ret
              exact ⟨rfl, bb⟩
            · have b4 : 2047 < y := by omega
              clear hp
              go_wp2_with fail
              go_ret
              exact ⟨rfl, bb⟩
      · have hno2 : ∀ j (h : j < l.length), j < i + 1 → cOk l[j] = true := by
          intro j hj hj1
          by_cases hji : j < i
          · exact hno.out j hj hji
          · obtain rfl : j = i := by omega
            exact hp
        have Hno2 := Lib.hid hno2
        unfold cOk at hp
        clear hno2 hno hc
        generalize l[i].1 = x at *
        generalize l[i].2 = y at *
        simp only [Bool.and_eq_true, inB_true] at hp
        obtain ⟨⟨h1, h2⟩, h3, h4⟩ := hp
        have d1 : (x < 32) = False := eq_false (by omega)
        have d2 : ((1114111 : Int) < x) = False := eq_false (by omega)
        have d3 : (y < 0) = False := eq_false (by omega)
        have d4 : ((2047 : Int) < y) = False := eq_false (by omega)
        go_wp2_with fail
        go_roundg (l.length - (i + 1))
        case measure => have := HG.out; omega
        case rel => exact ⟨i + 1, rfl, by omega, by simp, bb, Hno2⟩
    · obtain rfl : i = l.length := by omega
      have hall : l.all cOk = true := by
        rw [List.all_eq_true]
        intro c hc
        obtain ⟨j, hj, rfl⟩ := List.getElem_of_mem hc
        exact hno.out j hj hj
      obtain rfl : true = B := hall.symm.trans HB.out
      clear hno hall HB
      go_wp2
      go_ret
      exact ⟨rfl, bb⟩
theorem cells_any {lo up : Nat} {A : Option Addr} {n c : Nat} {l : List (Int × Int)} {m : Int} {w : World} (hr : Sl w lo up 2 A n c (cCells l)) (hup : up ≤ w.heap.size) (hn : n ≤ 9223372036854775807) :
    Calls Try.prog 93 #[.slice A n c, .int .i64 m] w fun e w' => e = .returned (.bool (mayB l m)) ∧ Below w.heap.size w w' := cells_is hr hup hn _ rfl

/-- A screen. -/
structure Scr where
  W : Int
  H : Int
  X : Int
  Y : Int
  At : Int
  Tp : Int
  Bt : Int
  wr : Bool
  au : Bool
  hi : Bool
  al : Bool
  s0 : Int
  s1 : Int
  s2 : Int
  cs : List (Int × Int)
  ms : List (Int × Int)
/-- Its cells, the places where they lie. -/
def Scr.v (s : Scr) (C : Option Addr) (cc : Nat) (M : Option Addr) (cm : Nat) : Array Value :=
  #[.int .i64 s.W, .int .i64 s.H, .slice C s.cs.length cc, .int .i64 s.X, .int .i64 s.Y, .int .i64 s.At, .int .i64 s.Tp, .int .i64 s.Bt, .bool s.wr, .bool s.au, .bool s.hi, .bool s.al, .int .i64 s.s0, .int .i64 s.s1, .int .i64 s.s2, .slice M s.ms.length cm]
/-- Its places lie in blocks from lo on, below up. -/
structure ScrAt (w : World) (lo up : Nat) (s : Scr) (C : Option Addr) (cc : Nat) (M : Option Addr) (cm : Nat) : Prop where
  c : Sl w lo up 2 C s.cs.length cc (cCells s.cs)
  m : Sl w lo up 2 M s.ms.length cm (cCells s.ms)
theorem ScrAt.below {w w' : World} {lo up : Nat} {s : Scr} {C : Option Addr} {cc : Nat} {M : Option Addr} {cm : Nat} (h : ScrAt w lo up s C cc M cm) {B : Nat} (hb : Below B w w') (hB : up ≤ B) : ScrAt w' lo up s C cc M cm := ⟨h.c.below hb hB, h.m.below hb hB⟩
theorem ScrAt.more {w : World} {lo up lo' up' : Nat} {s : Scr} {C : Option Addr} {cc : Nat} {M : Option Addr} {cm : Nat} (h : ScrAt w lo up s C cc M cm) (h1 : lo' ≤ lo) (h2 : up ≤ up') : ScrAt w lo' up' s C cc M cm := ⟨h.c.more h1 h2, h.m.more h1 h2⟩
theorem ScrAt.alloc {w : World} {lo up : Nat} {s : Scr} {C : Option Addr} {cc : Nat} {M : Option Addr} {cm : Nat} (h : ScrAt w lo up s C cc M cm) (hB : up ≤ w.heap.size) (o : Obj) : ScrAt (w.alloc o) lo up s C cc M cm := ⟨h.c.alloc hB o, h.m.alloc hB o⟩
theorem ScrAt.drewN {w : World} {lo up : Nat} {s : Scr} {C : Option Addr} {cc : Nat} {M : Option Addr} {cm : Nat} (h : ScrAt w lo up s C cc M cm) (k : Nat) : ScrAt (w.drewN k) lo up s C cc M cm := ⟨h.c.drewN k, h.m.drewN k⟩
/-- Its lengths are Go's. -/
def Scr.Len (s : Scr) : Prop := s.cs.length ≤ 9223372036854775807 ∧ s.ms.length ≤ 9223372036854775807
/-- The parts of what may be. -/
def gSides (s : Scr) : Bool := inB s.W 1 64 && inB s.H 1 64
def gPlaces (s : Scr) : Bool := mayB s.cs (s.W * s.H) && mayB s.ms (if s.al then s.W * s.H else 0)
def gCur (s : Scr) : Bool := inB s.X 0 (s.W - 1) && inB s.Y 0 (s.H - 1) && inB s.At 0 2047
def gRows (s : Scr) : Bool := inB s.Tp 0 s.Bt && decide (s.Bt < s.H)
def gSaved (s : Scr) : Bool := inB s.s0 0 63 && inB s.s1 0 63 && inB s.s2 0 2047
/-- A screen that may be. -/
def gOk (s : Scr) : Bool := gSides s && gPlaces s && gCur s && gRows s && gSaved s
theorem gsides {s : Scr} (h : gSides s = true) : (1 ≤ s.W ∧ s.W ≤ 64) ∧ (1 ≤ s.H ∧ s.H ≤ 64) := by
  simpa only [gSides, Bool.and_eq_true, inB_true] using h
theorem area {W H : Int} (h : (1 ≤ W ∧ W ≤ 64) ∧ (1 ≤ H ∧ H ≤ 64)) : 1 ≤ W * H ∧ W * H ≤ 4096 := by
  obtain ⟨⟨a, b⟩, c, d⟩ := h
  have h1 : 1 * 1 ≤ W * H := Int.mul_le_mul a c (by omega) (by omega)
  have h2 : W * H ≤ 64 * 64 := Int.mul_le_mul b d (by omega) (by omega)
  omega
end Go.Proofs.Ytfeeincglijmjaa
