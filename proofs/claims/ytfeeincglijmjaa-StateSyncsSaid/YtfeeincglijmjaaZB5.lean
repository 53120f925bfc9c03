/- Texts of this seat, one behind the other. -/
import Derived.Test.YtfeeincglijmjaaGD
import Derived.IntWalk
import Derived.Laws.StructEq
namespace Go.Proofs.Ytfeeincglijmjaa
/- The walks of the document's list and Same of screens, and of few. -/
section
open Go.RowKit
set_option linter.unusedVariables false
set_option linter.unusedSimpArgs false
attribute [local go_sem ↓] Go.wp_at_zero Go.wp_at_succ

set_option maxHeartbeats 4000000 in
set_option maxRecDepth 100000 in
theorem list_any {lo up lo2 up2 : Nat} {A A2 : Option Addr} {n c n2 c2 : Nat} {l m : List (Int × Int)} {w : World} (hr : Sl w lo up 2 A n c (cCells l)) (hr2 : Sl w lo2 up2 2 A2 n2 c2 (cCells m)) (hn : n ≤ 9223372036854775807) (hn2 : n2 ≤ 9223372036854775807) (b : Bool) (hb : b = true ↔ l = m) :
    Calls Try.prog 54 #[.slice A n c, .slice A2 n2 c2] w fun e w' => e = .returned (.bool b) ∧ Below w.heap.size w w' := by
  have hlen : n = l.length := by have := hr.len; rw [cCells_length] at this; omega
  have hlen2 : n2 = m.length := by have := hr2.len; rw [cCells_length] at this; omega
  subst hlen hlen2
  have HR := Lib.hid hr
  have HR2 := Lib.hid hr2
  have HB := Lib.hid hb
  clear hr hr2 hb
  by_cases hl : l.length = m.length
  rotate_left
  · have hbf : b = false := by
      cases b with
      | false => rfl
      | true => exact absurd (congrArg List.length (HB.out.1 rfl)) hl
    subst hbf
    have hl1 : ¬ ((l.length : Int) = (m.length : Int)) := by omega
    clear HB
    go_enter Try.func54, Try.ntmps54
    go_wp2
    go_ret
    exact ⟨rfl, Below.refl _ _⟩
  rw [← hl] at hn2 HR2 ⊢
  have HL := Lib.hid hl
  clear hl
  go_enter Try.func54, Try.ntmps54
  go_wp2_with fail
  go_loopg [5] l.length (fun gh s5 wr => ∃ i : Nat, gh = l.length - i ∧ i ≤ l.length ∧ s5 = .int .i64 i ∧ (∃ q, wr = w.drewN q) ∧ Hid (∀ j (h : j < l.length), j < i → m[j]? = some l[j]))
  case atStart => exact ⟨0, by omega, by omega, rfl, ⟨0, rfl⟩, Lib.hid (fun _ _ h => absurd h (by omega))⟩
  case round =>
    obtain ⟨i, hg, hi, rfl, ⟨q, rfl⟩, hall⟩ := hrel
    by_cases h : i < l.length
    · have hm : i < m.length := by have := HL.out; omega
      obtain ⟨g, o, rfl, _, hc⟩ := slc_cell HR.out (by omega)
      obtain ⟨g2, o2, rfl, _, hc2⟩ := slc_cell HR2.out (by omega)
      have k1 := (hc i h).1
      have k2 := (hc i h).2
      have k3 := (hc2 i hm).1
      have k4 := (hc2 i hm).2
      have a1 := addr_add g o (i * 2)
      have a2 := addr_add g2 o2 (i * 2)
      clear hc hc2
      by_cases he : l[i] = m[i]
      · have hall2 : ∀ j (h : j < l.length), j < i + 1 → m[j]? = some l[j] := by
          intro j hj hj1
          by_cases hji : j < i
          · exact hall.out j hj hji
          · obtain rfl : j = i := by omega
            rw [he, List.getElem?_eq_getElem hm]
        have Hall2 := Lib.hid hall2
        rw [← he] at k3 k4
        clear hall2 hall he
        generalize l[i].1 = x at *
        generalize l[i].2 = y at *
        go_wp2_with fail
        go_quiet (skip)
        go_wp2
        go_roundg (l.length - (i + 1))
        case measure => omega
        case rel => exact ⟨i + 1, rfl, by omega, by simp, ⟨_, rfl⟩, Hall2⟩
      · have hbf : b = false := by
          cases b with
          | false => rfl
          | true => 
            have := HB.out.1 rfl
            subst this
            exact absurd rfl he
        subst hbf
        have he2 : ¬ (l[i].1 = m[i].1 ∧ l[i].2 = m[i].2) := fun hh => he (Prod.ext hh.1 hh.2)
        clear HB hall he
        generalize l[i].1 = x at *
        generalize l[i].2 = y at *
        generalize m[i].1 = x2 at *
        generalize m[i].2 = y2 at *
        by_cases hx : x = x2
        · subst hx
          have hy : (y == y2) = false := by
            simp only [beq_eq_false_iff_ne]
            exact fun hh => he2 ⟨rfl, hh⟩
          clear he2
          go_wp2_with fail
          go_quiet (skip)
          go_wp2
          go_ret
          exact ⟨rfl, below_drewN (below_drewN (Below.refl _ _) _) _⟩
        · have hx : (x == x2) = false := by
            simp only [beq_eq_false_iff_ne]
            exact hx
          clear he2
          go_wp2_with fail
          go_quiet (skip)
          go_wp2
          go_ret
          exact ⟨rfl, below_drewN (below_drewN (Below.refl _ _) _) _⟩
    · obtain rfl : i = l.length := by omega
      have hbt : b = true := HB.out.2 (by
        refine List.ext_getElem HL.out fun j h1 h2 => ?_
        have := hall.out j h1 h1
        rw [List.getElem?_eq_getElem h2] at this
        injection this with this
        exact this.symm)
      subst hbt
      clear hall
      go_wp2
      go_ret
      exact ⟨rfl, below_drewN (Below.refl _ _) _⟩

end

/- Two rows of three numbers, compared. -/
section
open Go.RowKit
set_option linter.unusedVariables false
set_option linter.unusedSimpArgs false

theorem eq_in33 (a b c a2 b2 c2 : Int) (w : World) :
    (Op.equalIn 10000 33 (.agg #[.int .i64 a, .int .i64 b, .int .i64 c]) (.agg #[.int .i64 a2, .int .i64 b2, .int .i64 c2])).run Try.prog w = .ok (a == a2 && b == b2 && c == c2) w := by
  have u3 := Try.underlying3
  have a3 := Try.isAgg3
  have z3 := Try.sizeOf3
  rw [show (10000 : Nat) = 9999 + 1 from rfl, Op.equalIn]
  simp only [Sem.run_bind, run_underlying Try.underlying33, Result.andThen_ok]
  simp only [Std.Legacy.Range.forIn_eq_forIn_range', Std.Legacy.Range.size, Nat.sub_zero, Nat.add_sub_cancel, Nat.div_one, List.range'_succ, List.range'_zero, List.forIn_cons, List.forIn_nil]
  go_simp
  by_cases h1 : a = a2 <;> by_cases h2 : b = b2 <;> by_cases h3 : c = c2 <;> simp [h1, h2, h3]
end

/- The walk of the document's Same of screens, and of few. -/
section
open Go.RowKit
set_option linter.unusedVariables false
set_option linter.unusedSimpArgs false
attribute [local go_sem ↓] Go.wp_at_zero Go.wp_at_succ

theorem few_any {s : Scr} {C M : Option Addr} {cc cm : Nat} {w : World} :
    Calls Try.prog 24 #[.agg (s.v C cc M cm)] w fun e w' => e = .returned (.bool (decide (s.cs.length ≤ 500) && decide (s.ms.length ≤ 500))) ∧ Below w.heap.size w w' := by
  obtain ⟨W, H, X, Y, At, Tp, Bt, wr, au, hi, al, s0, s1, s2, cs, ms⟩ := s
  unfold Scr.v
  simp only
  generalize cs.length = n
  generalize ms.length = m
  by_cases h1 : n ≤ 500
  · have h1' : (n : Int) ≤ 500 := by omega
    have d1 : decide (n ≤ 500) = true := decide_eq_true h1
    by_cases h2 : m ≤ 500
    · have h2' : (m : Int) ≤ 500 := by omega
      have d2 : decide (m ≤ 500) = true := decide_eq_true h2
      rw [d1, d2]
      clear d1 d2
      go_enter Try.func24, Try.ntmps24
      go_wp2
      go_ret
      exact ⟨rfl, (Below.refl _ _).alloc (Nat.le_refl _) _⟩
    · have h2' : ¬ (m : Int) ≤ 500 := by omega
      have d2 : decide (m ≤ 500) = false := decide_eq_false h2
      rw [d1, d2]
      clear d1 d2
      go_enter Try.func24, Try.ntmps24
      go_wp2
      go_ret
      exact ⟨rfl, (Below.refl _ _).alloc (Nat.le_refl _) _⟩
  · have h1' : ¬ (n : Int) ≤ 500 := by omega
    have d1 : decide (n ≤ 500) = false := decide_eq_false h1
    rw [d1]
    clear d1
    go_enter Try.func24, Try.ntmps24
    go_wp2
    go_ret
    exact ⟨rfl, (Below.refl _ _).alloc (Nat.le_refl _) _⟩

/-- Two screens alike. -/
def gSame (s t : Scr) : Bool := decide (s.cs = t.cs) && decide (s.ms = t.ms) && (s.W == t.W && s.H == t.H && s.X == t.X && s.Y == t.Y && s.At == t.At && s.Tp == t.Tp && s.Bt == t.Bt) && (s.wr == t.wr) && (s.au == t.au) && (s.hi == t.hi) && (s.al == t.al) && (s.s0 == t.s0 && s.s1 == t.s1 && s.s2 == t.s2)
theorem gSame_iff {s t : Scr} : gSame s t = true ↔ s = t := by
  obtain ⟨W, H, X, Y, At, Tp, Bt, wr, au, hi, al, s0, s1, s2, cs, ms⟩ := s
  obtain ⟨W2, H2, X2, Y2, At2, Tp2, Bt2, wr2, au2, hi2, al2, s02, s12, s22, cs2, ms2⟩ := t
  simp only [gSame, Bool.and_eq_true, decide_eq_true_iff, beq_iff_eq, Scr.mk.injEq]
  constructor
  · rintro ⟨⟨⟨⟨⟨⟨⟨a, b⟩, ⟨⟨⟨⟨⟨⟨c, d⟩, e⟩, f⟩, g⟩, h⟩, i⟩⟩, j⟩, k⟩, l⟩, m⟩, ⟨n, o⟩, p⟩
    exact ⟨c, d, e, f, g, h, i, j, k, l, m, n, o, p, a, b⟩
  · rintro ⟨c, d, e, f, g, h, i, j, k, l, m, n, o, p, a, b⟩
    exact ⟨⟨⟨⟨⟨⟨⟨a, b⟩, ⟨⟨⟨⟨⟨⟨c, d⟩, e⟩, f⟩, g⟩, h⟩, i⟩⟩, j⟩, k⟩, l⟩, m⟩, ⟨n, o⟩, p⟩

set_option maxHeartbeats 16000000 in
set_option maxRecDepth 100000 in
theorem same_is {lo up lo2 up2 : Nat} {s t : Scr} {C M C2 M2 : Option Addr} {cc cm cc2 cm2 : Nat} {w : World} (hat : ScrAt w lo up s C cc M cm) (hup : up ≤ w.heap.size) (hat2 : ScrAt w lo2 up2 t C2 cc2 M2 cm2) (hup2 : up2 ≤ w.heap.size) (hl : s.Len) (hl2 : t.Len) (B : Bool) (hB : gSame s t = B) :
    Calls Try.prog 20 #[.agg (s.v C cc M cm), .agg (t.v C2 cc2 M2 cm2)] w fun e w' => e = .returned (.bool B) ∧ Below w.heap.size w w' := by
  have H1 := Lib.hid (fun W (b : Below w.heap.size w W) => list_any (hat.c.below b hup) (hat2.c.below b hup2) hl.1 hl2.1 (decide (s.cs = t.cs)) (by rw [decide_eq_true_iff]))
  have H2 := Lib.hid (fun W (b : Below w.heap.size w W) => list_any (hat.m.below b hup) (hat2.m.below b hup2) hl.2 hl2.2 (decide (s.ms = t.ms)) (by rw [decide_eq_true_iff]))
  unfold gSame at hB
  obtain ⟨qa, hqa⟩ : ∃ q, q = decide (s.cs = t.cs) := ⟨_, rfl⟩
  obtain ⟨qb, hqb⟩ : ∃ q, q = decide (s.ms = t.ms) := ⟨_, rfl⟩
  rw [← hqa] at hB H1
  rw [← hqb] at hB H2
  clear hqa hqb hat hat2 hl hl2
  obtain ⟨W, H, X, Y, At, Tp, Bt, wr, au, hi, al, s0, s1, s2, cs, ms⟩ := s
  obtain ⟨W2, H2', X2, Y2, At2, Tp2, Bt2, wr2, au2, hi2, al2, s02, s12, s22, cs2, ms2⟩ := t
  unfold Scr.v
  simp only at H1 H2 hB ⊢
  have HB := Lib.hid hB
  clear hB
  have bb := ((Below.refl w.heap.size w).alloc (Nat.le_refl _) (.cells #[.int .i64 W, .int .i64 H, .slice C cs.length cc, .int .i64 X, .int .i64 Y, .int .i64 At, .int .i64 Tp, .int .i64 Bt, .bool wr, .bool au, .bool hi, .bool al, .int .i64 s0, .int .i64 s1, .int .i64 s2, .slice M ms.length cm] 35)).alloc (by simp) (.cells #[.int .i64 W2, .int .i64 H2', .slice C2 cs2.length cc2, .int .i64 X2, .int .i64 Y2, .int .i64 At2, .int .i64 Tp2, .int .i64 Bt2, .bool wr2, .bool au2, .bool hi2, .bool al2, .int .i64 s02, .int .i64 s12, .int .i64 s22, .slice M2 ms2.length cm2] 35)
  have b1 := (Blk.new w 35 #[.int .i64 W, .int .i64 H, .slice C cs.length cc, .int .i64 X, .int .i64 Y, .int .i64 At, .int .i64 Tp, .int .i64 Bt, .bool wr, .bool au, .bool hi, .bool al, .int .i64 s0, .int .i64 s1, .int .i64 s2, .slice M ms.length cm] rfl).alloc (.cells #[.int .i64 W2, .int .i64 H2', .slice C2 cs2.length cc2, .int .i64 X2, .int .i64 Y2, .int .i64 At2, .int .i64 Tp2, .int .i64 Bt2, .bool wr2, .bool au2, .bool hi2, .bool al2, .int .i64 s02, .int .i64 s12, .int .i64 s22, .slice M2 ms2.length cm2] 35)
  have b2 := Blk.new (w.alloc (.cells #[.int .i64 W, .int .i64 H, .slice C cs.length cc, .int .i64 X, .int .i64 Y, .int .i64 At, .int .i64 Tp, .int .i64 Bt, .bool wr, .bool au, .bool hi, .bool al, .int .i64 s0, .int .i64 s1, .int .i64 s2, .slice M ms.length cm] 35)) 35 #[.int .i64 W2, .int .i64 H2', .slice C2 cs2.length cc2, .int .i64 X2, .int .i64 Y2, .int .i64 At2, .int .i64 Tp2, .int .i64 Bt2, .bool wr2, .bool au2, .bool hi2, .bool al2, .int .i64 s02, .int .i64 s12, .int .i64 s22, .slice M2 ms2.length cm2] (g := w.heap.size + 1) (by simp)
  go_enter Try.func20, Try.ntmps20
  go_wp2_with fail
  refine (H1.out _ bb).mono ?_
  rintro e w1 ⟨rfl, r1⟩
  have c1 := b1.later r1
  have c2 := b2.later r1
  have bb1 := bb.trans (r1.mono (by simp; omega))
  clear r1 b1 b2 bb
  have ⟨k1, f1⟩ := c1.rules
  have ⟨k2, f2⟩ := c2.rules
  go_wp2_with fail
  refine (H2.out _ bb1).mono ?_
  rintro e w2 ⟨rfl, r2⟩
  have d1 := c1.later r2
  have d2 := c2.later r2
  have bb2 := bb1.trans (r2.mono bb1.size)
  clear r2 c1 c2 bb1 k1 f1 k2 f2 H1 H2
  have ⟨k1, f1⟩ := d1.rules
  have ⟨k2, f2⟩ := d2.rules
  go_upto_region 3 with fail
  go_cut [7] (fun s7 wx => ∃ q : Bool, s7 = .bool q ∧ Hid ((W == W2 && H == H2' && X == X2 && Y == Y2 && At == At2 && Tp == Tp2 && Bt == Bt2) = q) ∧ w2 = wx ∧ True)
  case first =>
    as_aux_lemma =>
      clear HB
      cases e0 : (W == W2)
      · have E0 := Lib.hid e0
        go_wp2_with fail
        go_meet
        exact ⟨_, rfl, Lib.hid (by simp only [E0.out, Bool.false_and, Bool.and_false, Bool.true_and, Bool.and_true]), rfl, trivial⟩
      have E0 := Lib.hid e0
      cases e1 : (H == H2')
      · have E1 := Lib.hid e1
        go_wp2_with fail
        go_meet
        exact ⟨_, rfl, Lib.hid (by simp only [E0.out, E1.out, Bool.false_and, Bool.and_false, Bool.true_and, Bool.and_true]), rfl, trivial⟩
      have E1 := Lib.hid e1
      cases e2 : (X == X2)
      · have E2 := Lib.hid e2
        go_wp2_with fail
        go_meet
        exact ⟨_, rfl, Lib.hid (by simp only [E0.out, E1.out, E2.out, Bool.false_and, Bool.and_false, Bool.true_and, Bool.and_true]), rfl, trivial⟩
      have E2 := Lib.hid e2
      cases e3 : (Y == Y2)
      · have E3 := Lib.hid e3
        go_wp2_with fail
        go_meet
        exact ⟨_, rfl, Lib.hid (by simp only [E0.out, E1.out, E2.out, E3.out, Bool.false_and, Bool.and_false, Bool.true_and, Bool.and_true]), rfl, trivial⟩
      have E3 := Lib.hid e3
      cases e4 : (At == At2)
      · have E4 := Lib.hid e4
        go_wp2_with fail
        go_meet
        exact ⟨_, rfl, Lib.hid (by simp only [E0.out, E1.out, E2.out, E3.out, E4.out, Bool.false_and, Bool.and_false, Bool.true_and, Bool.and_true]), rfl, trivial⟩
      have E4 := Lib.hid e4
      cases e5 : (Tp == Tp2)
      · have E5 := Lib.hid e5
        go_wp2_with fail
        go_meet
        exact ⟨_, rfl, Lib.hid (by simp only [E0.out, E1.out, E2.out, E3.out, E4.out, E5.out, Bool.false_and, Bool.and_false, Bool.true_and, Bool.and_true]), rfl, trivial⟩
      have E5 := Lib.hid e5
      cases e6 : (Bt == Bt2)
      · have E6 := Lib.hid e6
        go_wp2_with fail
        go_meet
        exact ⟨_, rfl, Lib.hid (by simp only [E0.out, E1.out, E2.out, E3.out, E4.out, E5.out, E6.out, Bool.false_and, Bool.and_false, Bool.true_and, Bool.and_true]), rfl, trivial⟩
      have E6 := Lib.hid e6
      go_wp2_with fail
      go_meet
      exact ⟨_, rfl, Lib.hid (by simp only [E0.out, E1.out, E2.out, E3.out, E4.out, E5.out, E6.out, Bool.false_and, Bool.and_false, Bool.true_and, Bool.and_true]), rfl, trivial⟩
  case rest =>
    as_aux_lemma =>
      obtain ⟨q, rfl, hq, rfl, -⟩ := hcut
      have hb := HB.out
      rw [hq.out] at hb
      clear HB hq
      have HB := Lib.hid hb
      clear hb
      cases qa
      · have hb := HB.out
        simp only [Bool.false_and] at hb
        subst hb
        clear HB
        go_wp2_with fail
        go_ret
        exact ⟨rfl, bb2⟩
      cases qb
      · have hb := HB.out
        simp only [Bool.false_and, Bool.and_false] at hb
        subst hb
        clear HB
        go_wp2_with fail
        go_ret
        exact ⟨rfl, bb2⟩
      cases q
      · have hb := HB.out
        simp only [Bool.false_and, Bool.and_false] at hb
        subst hb
        clear HB
        go_wp2_with fail
        go_ret
        exact ⟨rfl, bb2⟩
      have qA := eq_in33 s0 s1 s2 s02 s12 s22
      cases e0 : (wr == wr2)
      · have E0 := Lib.hid e0
        have hb := HB.out
        simp only [E0.out, Bool.false_and, Bool.and_false, Bool.true_and, Bool.and_true] at hb
        subst hb
        clear HB
        go_wp2_with fail
        go_ret
        exact ⟨rfl, bb2⟩
      have E0 := Lib.hid e0
      cases e1 : (au == au2)
      · have E1 := Lib.hid e1
        have hb := HB.out
        simp only [E0.out, E1.out, Bool.false_and, Bool.and_false, Bool.true_and, Bool.and_true] at hb
        subst hb
        clear HB
        go_wp2_with fail
        go_ret
        exact ⟨rfl, bb2⟩
      have E1 := Lib.hid e1
      cases e2 : (hi == hi2)
      · have E2 := Lib.hid e2
        have hb := HB.out
        simp only [E0.out, E1.out, E2.out, Bool.false_and, Bool.and_false, Bool.true_and, Bool.and_true] at hb
        subst hb
        clear HB
        go_wp2_with fail
        go_ret
        exact ⟨rfl, bb2⟩
      have E2 := Lib.hid e2
      cases e3 : (al == al2)
      · have E3 := Lib.hid e3
        have hb := HB.out
        simp only [E0.out, E1.out, E2.out, E3.out, Bool.false_and, Bool.and_false, Bool.true_and, Bool.and_true] at hb
        subst hb
        clear HB
        go_wp2_with fail
        go_ret
        exact ⟨rfl, bb2⟩
      have E3 := Lib.hid e3
      cases e4 : (s0 == s02)
      · have E4 := Lib.hid e4
        have hb := HB.out
        simp only [E0.out, E1.out, E2.out, E3.out, E4.out, Bool.false_and, Bool.and_false, Bool.true_and, Bool.and_true] at hb
        subst hb
        clear HB
        go_wp2_with fail
        go_ret
        exact ⟨rfl, bb2⟩
      have E4 := Lib.hid e4
      cases e5 : (s1 == s12)
      · have E5 := Lib.hid e5
        have hb := HB.out
        simp only [E0.out, E1.out, E2.out, E3.out, E4.out, E5.out, Bool.false_and, Bool.and_false, Bool.true_and, Bool.and_true] at hb
        subst hb
        clear HB
        go_wp2_with fail
        go_ret
        exact ⟨rfl, bb2⟩
      have E5 := Lib.hid e5
      cases e6 : (s2 == s22)
      · have E6 := Lib.hid e6
        have hb := HB.out
        simp only [E0.out, E1.out, E2.out, E3.out, E4.out, E5.out, E6.out, Bool.false_and, Bool.and_false, Bool.true_and, Bool.and_true] at hb
        subst hb
        clear HB
        go_wp2_with fail
        go_ret
        exact ⟨rfl, bb2⟩
      have E6 := Lib.hid e6
      have hb := HB.out
      simp only [E0.out, E1.out, E2.out, E3.out, E4.out, E5.out, E6.out, Bool.false_and, Bool.and_false, Bool.true_and, Bool.and_true] at hb
      subst hb
      clear HB
      go_wp2_with fail
      go_ret
      exact ⟨rfl, bb2⟩
theorem same_any {lo up lo2 up2 : Nat} {s t : Scr} {C M C2 M2 : Option Addr} {cc cm cc2 cm2 : Nat} {w : World} (hat : ScrAt w lo up s C cc M cm) (hup : up ≤ w.heap.size) (hat2 : ScrAt w lo2 up2 t C2 cc2 M2 cm2) (hup2 : up2 ≤ w.heap.size) (hl : s.Len) (hl2 : t.Len) :
    Calls Try.prog 20 #[.agg (s.v C cc M cm), .agg (t.v C2 cc2 M2 cm2)] w fun e w' => e = .returned (.bool (gSame s t)) ∧ Below w.heap.size w w' := same_is hat hup hat2 hup2 hl hl2 _ rfl
end
end Go.Proofs.Ytfeeincglijmjaa
