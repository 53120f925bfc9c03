/- Words on ledgers; the walk of sent.time. -/
import Derived.Test.YtgebebdapfnmpaaProg
import Derived.Test.YtgebebdapfnmpaaLib4
import Derived.Deep.RegionHeld3
import Derived.Deep.DrawnRows
import Derived.Deep.LoopGhost
import Derived.Deep.QuietTactic
import Derived.RegionTactic
import Derived.ChangeAlike
import Derived.BigRegion
import Derived.Handy
import Derived.IntWalk
import Derived.WalkLawsBesides
import Derived.Outline
import Derived.Deep.DeepCutAuto
namespace Go.Proofs.Ytgebebdapfnmpaa
open Go.RowKit
set_option linter.unusedVariables false
set_option linter.unusedSimpArgs false
attribute [local go_sem ↓] Go.wp_at_zero Go.wp_at_succ

/-- A packet of a ledger. -/
structure Pk where
  no : Int
  ti : Int
  sz : Int
  el : Bool
  pr : Bool
/-- Its value; its cells. -/
def Pk.val (p : Pk) : Value := .agg #[.int .i64 p.no, .int .i64 p.ti, .int .i64 p.sz, .bool p.el, .bool p.pr]
def pCells : List Pk → List Value
  | [] => []
  | p :: l => .int .i64 p.no :: .int .i64 p.ti :: .int .i64 p.sz :: .bool p.el :: .bool p.pr :: pCells l
theorem pCells_length : ∀ l : List Pk, (pCells l).length = l.length * 5
  | [] => rfl
  | p :: l => by simp [pCells, pCells_length l, Nat.add_mul]
theorem pCells_append : ∀ l m : List Pk, pCells (l ++ m) = pCells l ++ pCells m
  | [], m => rfl
  | p :: l, m => by simp [pCells, pCells_append l m]
theorem pCells_one : ∀ l : List Pk, ∀ u ∈ pCells l, u.oneCell' = true
  | [], u, h => by simp [pCells] at h
  | p :: l, u, h => by
    simp only [pCells, List.mem_cons] at h
    rcases h with rfl | rfl | rfl | rfl | rfl | h
    · rfl
    · rfl
    · rfl
    · rfl
    · rfl
    · exact pCells_one l u h
theorem pCells_at : ∀ (l : List Pk) (j : Nat) (h : j < l.length), (pCells l)[j * 5]? = some (.int .i64 l[j].no) ∧ (pCells l)[j * 5 + 1]? = some (.int .i64 l[j].ti) ∧ (pCells l)[j * 5 + 2]? = some (.int .i64 l[j].sz) ∧ (pCells l)[j * 5 + 3]? = some (.bool l[j].el) ∧ (pCells l)[j * 5 + 4]? = some (.bool l[j].pr)
  | [], j, h => absurd h (by simp)
  | p :: l, 0, h => by simp [pCells]
  | p :: l, j + 1, h => by
    have := pCells_at l j (by simpa using h)
    rw [show (j + 1) * 5 = j * 5 + 5 from by omega]
    simpa [pCells] using this
/-- The cells of a slice of packets. -/
theorem slp_cell {w : World} {lo up n c : Nat} {A : Option Addr} {l : List Pk} (hr : Sl w lo up 5 A n c (pCells l)) (hn : 0 < n) :
    ∃ g o, A = some ⟨g, o, none⟩ ∧ g < up ∧ ∀ j (h : j < l.length), w.cell? ⟨g, o + j * 5, none⟩ = some (.int .i64 l[j].no) ∧ w.cell? ⟨g, o + j * 5 + 1, none⟩ = some (.int .i64 l[j].ti) ∧ w.cell? ⟨g, o + j * 5 + 2, none⟩ = some (.int .i64 l[j].sz) ∧ w.cell? ⟨g, o + j * 5 + 3, none⟩ = some (.bool l[j].el) ∧ w.cell? ⟨g, o + j * 5 + 4, none⟩ = some (.bool l[j].pr) := by
  obtain ⟨g, o, rfl, _, hb, hc⟩ := hr.at_ hn
  refine ⟨g, o, rfl, hb, fun j h => ?_⟩
  have hl := pCells_length l
  have := pCells_at l j h
  simp only [Nat.add_assoc]
  rw [hc (j * 5) (by omega), hc (j * 5 + 1) (by omega), hc (j * 5 + 2) (by omega), hc (j * 5 + 3) (by omega), hc (j * 5 + 4) (by omega)]
  exact this

/-- A time, or the nearest that may be. -/
def tm (n : Int) : Int := if n < 0 then 0 else if n ≤ 1099511627776 then n else 1099511627776
theorem tm_bound (n : Int) : 0 ≤ tm n ∧ tm n ≤ 1099511627776 := by
  unfold tm
  split
  · omega
  · split <;> omega
theorem time_any (n : Int) (w : World) : Calls Try.prog 14 #[.int .i64 n] w fun e w' => e = .returned (.int .i64 (tm n)) ∧ w = w' := by
  unfold tm
  by_cases h1 : n < 0
  · rw [if_pos h1]
    go_enter Try.func14, Try.ntmps14
    go_wp2
    go_ret
    exact ⟨rfl, rfl⟩
  · rw [if_neg h1]
    by_cases h2 : n ≤ 1099511627776
    · rw [if_pos h2]
      go_enter Try.func14, Try.ntmps14
      go_wp2
      all_goals
        go_ret
        first | exact ⟨rfl, rfl⟩ | (obtain rfl : n = 0 := by omega; exact ⟨rfl, rfl⟩) | (obtain rfl : n = 1099511627776 := by omega; exact ⟨rfl, rfl⟩)
    · rw [if_neg h2]
      go_enter Try.func14, Try.ntmps14
      go_wp2
      go_ret
      exact ⟨rfl, rfl⟩

theorem time_same (n : Int) (w : World) : Calls Try.prog 14 #[.int .i64 n] w fun e w' => e = .returned (.int .i64 (tm n)) ∧ w' = w := (time_any n w).mono fun _ _ h => ⟨h.1, h.2.symm⟩

/-- What a packet may not be, behind a number. -/
def pBad (was : Int) (p : Pk) : Prop := p.no ≤ was ∨ p.ti ≠ tm p.ti ∨ p.sz < 0 ∨ 65535 < p.sz
/-- Packets each of which may be. -/
def pGood (l : List Pk) : Prop := ∀ i (h : i < l.length), ¬ pBad (if h0 : 0 < i then (l[i - 1]'(by omega)).no else -1) l[i]
/-- Numbers of packets that are Go's. -/
def pWf (l : List Pk) : Prop := ∀ p ∈ l, (-9223372036854775808 ≤ p.no ∧ p.no ≤ 9223372036854775807) ∧ (-9223372036854775808 ≤ p.ti ∧ p.ti ≤ 9223372036854775807) ∧ (-9223372036854775808 ≤ p.sz ∧ p.sz ≤ 9223372036854775807)

theorem below_drewN {B : Nat} {a w : World} (h : Below B a w) (k : Nat) : Below B a (w.drewN k) := ⟨h.os, h.tape, h.output, h.size, h.block⟩

set_option maxHeartbeats 8000000 in
set_option maxRecDepth 100000 in
theorem check_any {lo up : Nat} {A : Option Addr} {n c : Nat} {l : List Pk} {w : World} (hr : Sl w lo up 5 A n c (pCells l)) (hup : up ≤ w.heap.size) (hn : n ≤ 9223372036854775807)
    (hl : pWf l) (b : Bool) (hb : b = true ↔ pGood l ∧ l.length ≤ 300) :
    Calls Try.prog 7 #[.slice A n c] w fun e w' => e = .returned (.bool b) ∧ Below w.heap.size w w' := by
  have hlen : n = l.length := by have := hr.len; rw [pCells_length] at this; omega
  subst hlen
  have HR := Lib.hid hr
  have HL := Lib.hid hl
  have HB := Lib.hid hb
  clear hr hl hb
  go_enter Try.func7, Try.ntmps7
  go_wp2_with fail
  go_loopg [3, 8] l.length (fun gh s3 s8 wr => ∃ (i : Nat) (was : Int), gh = l.length - i ∧ i ≤ l.length ∧ s8 = .int .i64 i ∧ s3 = .int .i64 was ∧ Below w.heap.size w wr ∧ Hid (was = if h0 : 0 < i ∧ i ≤ l.length then (l[i - 1]'(by omega)).no else -1) ∧ Hid (∀ j (h : j < l.length), j < i → ¬ pBad (if h0 : 0 < j then (l[j - 1]'(by omega)).no else -1) l[j]))
  case atStart => exact ⟨0, -1, by omega, by omega, rfl, rfl, Below.refl _ _, Lib.hid rfl, Lib.hid (fun _ _ h => absurd h (by omega))⟩
  case round =>
    obtain ⟨i, was, hg, hi, rfl, rfl, bb, hwas, hall⟩ := hrel
    have z0 := bb.size
    by_cases h : i < l.length
    · obtain ⟨g, o, rfl, hgu, hc⟩ := slp_cell (HR.out.below bb hup) (by omega)
      obtain ⟨k1, k2, k3, k4, k5⟩ := hc i h
      have a1 := addr_add g o (i * 5)
      have hx := HL.out l[i] (List.getElem_mem h)
      have hgl : g < wr.heap.size := by omega
      have hwas2 : (if h0 : 0 < i then (l[i - 1]'(by omega)).no else -1) = was := by
        rw [hwas.out]
        by_cases h0 : 0 < i
        · rw [dif_pos h0, dif_pos ⟨h0, by omega⟩]
        · rw [dif_neg h0, dif_neg (by omega)]
      by_cases hbad : pBad was l[i]
      · have hbf : b = false := by
          cases b with
          | false => rfl
          | true => exact absurd (by rw [hwas2]; exact hbad) ((HB.out.1 rfl).1 i h)
        subst hbf
        clear hc hall HB hwas hwas2
        generalize l[i] = p at *
        obtain ⟨no, ti, sz, el, pr⟩ := p
        simp only at k1 k2 k3 k4 k5 hx
        have ht := tm_bound ti
        by_cases b1 : no ≤ was
        · have d1 : (no ≤ was) = True := eq_true b1
          clear hbad
          go_upto_region 5 with fail
          go_region
          go_wp2_with fail
          go_ret
          exact ⟨rfl, (bb.alloc z0 _).drew⟩
        have d1 : (no ≤ was) = False := eq_false b1
        have HT := Lib.hid (fun w => time_same ti w)
        have hbt : pBad was ⟨no, ti, sz, el, pr⟩ → ti ≠ tm ti ∨ sz < 0 ∨ 65535 < sz := fun hh => hh.resolve_left b1
        have hbt := hbt hbad
        clear hbad
        generalize tm ti = t at *
        by_cases b2 : ti = t
        rotate_left
        · have d2 : (ti != t) = true := by simpa using b2
          have d3 : (ti == t) = false := by simpa using b2
          have d4 : (ti = t) = False := eq_false b2
          clear hbt b2 ht
          go_upto_region 5 with fail
          go_quiet ((go_at_call 14; exact Calls.quiet_of_same (HT.out _)))
          go_wp2_with fail
          go_ret
          exact ⟨rfl, below_drewN (bb.alloc z0 _) _⟩
        have d2 : (ti != t) = false := by simpa using b2
        have d3 : (ti == t) = true := by simpa using b2
        have d4 : (ti = t) = True := eq_true b2
        have hbt := hbt.resolve_left (fun hh => hh b2)
        have B2 := Lib.hid b2
        clear b2
        by_cases b3 : sz < 0
        · have d5 : (sz < 0) = True := eq_true b3
          clear hbt ht
          go_upto_region 5 with fail
          go_quiet ((go_at_call 14; exact Calls.quiet_of_same (HT.out _)))
          go_wp2_with fail
          go_ret
          exact ⟨rfl, below_drewN (bb.alloc z0 _) _⟩
        · have b4 := hbt.resolve_left b3
          have d5 : (sz < 0) = False := eq_false b3
          have d6 : ((65535 : Int) < sz) = True := eq_true b4
          clear hbt ht
          go_upto_region 5 with fail
          go_quiet ((go_at_call 14; exact Calls.quiet_of_same (HT.out _)))
          go_wp2_with fail
          go_ret
          exact ⟨rfl, below_drewN (bb.alloc z0 _) _⟩
      · have hnb : ∀ j (h : j < l.length), j < i + 1 → ¬ pBad (if h0 : 0 < j then (l[j - 1]'(by omega)).no else -1) l[j] := by
          intro j hj hj1
          by_cases hji : j < i
          · exact hall.out j hj hji
          · obtain rfl : j = i := by omega
            rw [hwas2]
            exact hbad
        have Hnb := Lib.hid hnb
        have hw2 : l[i].no = if h0 : 0 < i + 1 ∧ i + 1 ≤ l.length then (l[i + 1 - 1]'(by omega)).no else -1 := by
          rw [dif_pos ⟨by omega, by omega⟩]
          rfl
        have Hw2 := Lib.hid hw2
        obtain ⟨p, hp⟩ : ∃ p, p = l[i] := ⟨_, rfl⟩
        rw [← hp] at k1 k2 k3 k4 k5 hx hbad Hw2
        clear hc hall HB hwas hwas2 hnb hw2 hp
        obtain ⟨no, ti, sz, el, pr⟩ := p
        simp only at k1 k2 k3 k4 k5 hx Hw2
        have HT := Lib.hid (fun w => time_same ti w)
        have b1 : ¬ no ≤ was := fun hh => hbad (.inl hh)
        have b2 : ti = tm ti := Classical.byContradiction fun hh => hbad (.inr (.inl hh))
        have b3 : ¬ sz < 0 := fun hh => hbad (.inr (.inr (.inl hh)))
        have b4 : ¬ 65535 < sz := fun hh => hbad (.inr (.inr (.inr hh)))
        clear hbad
        generalize tm ti = t at *
        have d1 : (no ≤ was) = False := eq_false b1
        have d2 : (ti != t) = false := by simpa using b2
        have d3 : (ti == t) = true := by simpa using b2
        have d4 : (ti = t) = True := eq_true b2
        have d5 : (sz < 0) = False := eq_false b3
        have d6 : ((65535 : Int) < sz) = False := eq_false b4
        clear b2
        go_upto_region 5 with fail
        go_quiet ((go_at_call 14; exact Calls.quiet_of_same (HT.out _)))
        clear d1 d2 d3 d4 d5 d6
        go_wp2_with fail
        go_roundg (l.length - (i + 1))
        case measure => omega
        case rel => exact ⟨i + 1, no, rfl, by omega, by simp, rfl, below_drewN (bb.alloc z0 _) _, Hw2, Hnb⟩
    · obtain rfl : i = l.length := by omega
      have hgood : pGood l := fun j hj => hall.out j hj hj
      have hbe : decide ((l.length : Int) ≤ 300) = b := by
        cases b with
        | true =>
          have := (HB.out.1 rfl).2
          rw [decide_eq_true_iff]
          omega
        | false =>
          rw [decide_eq_false_iff_not]
          intro h
          have := HB.out.2 ⟨hgood, by omega⟩
          cases this
      have Hbe := Lib.hid hbe
      clear hall hgood hbe HB hwas
      go_wp2
      go_ret
      refine ⟨?_, bb⟩
      rw [← Hbe.out]
      rfl
end Go.Proofs.Ytgebebdapfnmpaa
