/- The walks of the document's Same, of both Many, of the document's Has, at ranges. -/
import Derived.Test.YtgckedeaoglehaaE
import Derived.Test.YtgckedeaoglehaaD
import Derived.IntWalk
namespace Go.Proofs.Ytgckedeaoglehaa
open Go.RowKit
set_option linter.unusedVariables false
set_option linter.unusedSimpArgs false
attribute [local go_sem ↓] Go.wp_at_zero Go.wp_at_succ

theorem below_drewN {B : Nat} {a w : World} (h : Below B a w) (k : Nat) : Below B a (w.drewN k) := ⟨h.os, h.tape, h.output, h.size, h.block⟩

set_option maxHeartbeats 4000000 in
theorem same_any {lo up lo2 up2 : Nat} {A A2 : Option Addr} {n c n2 c2 : Nat} {l m : List (Int × Int)} {w : World} (hr : Sl w lo up 2 A n c (rCells l)) (hr2 : Sl w lo2 up2 2 A2 n2 c2 (rCells m)) (hn : n ≤ 1000) (hn2 : n2 ≤ 1000) (b : Bool) (hb : b = true ↔ l = m) :
    Calls Try.prog 9 #[.slice A n c, .slice A2 n2 c2] w fun e w' => e = .returned (.bool b) ∧ Below w.heap.size w w' := by
  have hlen : n = l.length := by have := hr.len; rw [rCells_length] at this; omega
  have hlen2 : n2 = m.length := by have := hr2.len; rw [rCells_length] at this; omega
  subst hlen hlen2
  have HR := Lib.hid hr
  have HR2 := Lib.hid hr2
  have HB := Lib.hid hb
  clear hr hr2 hb
  by_cases hl : l.length = m.length
  rotate_left
  · have hbf : b = false := by
      cases b with
      | false => rfl
      | true => exact absurd (congrArg List.length (HB.out.1 rfl)) hl
    subst hbf
    have hl1 : ¬ ((l.length : Int) = (m.length : Int)) := by omega
    clear HB
    go_enter Try.func9, Try.ntmps9
    go_wp2
    go_ret
    exact ⟨rfl, Below.refl _ _⟩
  rw [← hl] at hn2 HR2 ⊢
  have HL := Lib.hid hl
  clear hl
  go_enter Try.func9, Try.ntmps9
  go_wp2_with fail
  go_loopg [5] l.length (fun gh s5 wr => ∃ i : Nat, gh = l.length - i ∧ i ≤ l.length ∧ s5 = .int .i64 i ∧ (∃ q, wr = w.drewN q) ∧ Hid (∀ j (h : j < l.length), j < i → m[j]? = some l[j]))
  case atStart => exact ⟨0, by omega, by omega, rfl, ⟨0, rfl⟩, Lib.hid (fun _ _ h => absurd h (by omega))⟩
  case round =>
    obtain ⟨i, hg, hi, rfl, ⟨q, rfl⟩, hall⟩ := hrel
    by_cases h : i < l.length
    · have hm : i < m.length := by have := HL.out; omega
      obtain ⟨g, o, rfl, _, hc⟩ := slr_cell HR.out (by omega)
      obtain ⟨g2, o2, rfl, _, hc2⟩ := slr_cell HR2.out (by omega)
      have k1 := (hc i h).1
      have k2 := (hc i h).2
      have k3 := (hc2 i hm).1
      have k4 := (hc2 i hm).2
      have a1 := addr_add g o (i * 2)
      have a2 := addr_add g2 o2 (i * 2)
      clear hc hc2
      by_cases he : l[i] = m[i]
      · have hall2 : ∀ j (h : j < l.length), j < i + 1 → m[j]? = some l[j] := by
          intro j hj hj1
          by_cases hji : j < i
          · exact hall.out j hj hji
          · obtain rfl : j = i := by omega
            rw [he, List.getElem?_eq_getElem hm]
        have Hall2 := Lib.hid hall2
        rw [← he] at k3 k4
        clear hall2 hall he
        generalize l[i].1 = x at *
        generalize l[i].2 = y at *
        go_wp2_with fail
        go_quiet (skip)
        go_wp2
        go_roundg (l.length - (i + 1))
        case measure => omega
        case rel => exact ⟨i + 1, rfl, by omega, by simp, ⟨_, rfl⟩, Hall2⟩
      · have hbf : b = false := by
          cases b with
          | false => rfl
          | true => 
            have := HB.out.1 rfl
            subst this
            exact absurd rfl he
        subst hbf
        have he2 : ¬ (l[i].1 = m[i].1 ∧ l[i].2 = m[i].2) := fun hh => he (Prod.ext hh.1 hh.2)
        clear HB hall he
        generalize l[i].1 = x at *
        generalize l[i].2 = y at *
        generalize m[i].1 = x2 at *
        generalize m[i].2 = y2 at *
        by_cases hx : x = x2
        · subst hx
          have hy : (y == y2) = false := by
            simp only [beq_eq_false_iff_ne]
            exact fun hh => he2 ⟨rfl, hh⟩
          clear he2
          go_wp2_with fail
          go_quiet (skip)
          go_wp2
          go_ret
          exact ⟨rfl, below_drewN (below_drewN (Below.refl _ _) _) _⟩
        · have hx : (x == x2) = false := by
            simp only [beq_eq_false_iff_ne]
            exact hx
          clear he2
          go_wp2_with fail
          go_quiet (skip)
          go_wp2
          go_ret
          exact ⟨rfl, below_drewN (below_drewN (Below.refl _ _) _) _⟩
    · obtain rfl : i = l.length := by omega
      have hbt : b = true := HB.out.2 (by
        refine List.ext_getElem HL.out fun j h1 h2 => ?_
        have := hall.out j h1 h1
        rw [List.getElem?_eq_getElem h2] at this
        injection this with this
        exact this.symm)
      subst hbt
      clear hall
      go_wp2
      go_ret
      exact ⟨rfl, below_drewN (Below.refl _ _) _⟩

/-- How many numbers there are at most. -/
def rMany (l : List (Int × Int)) : Int := min (rSum l) 4611686018427387903
theorem rSum_take {l : List (Int × Int)} {i : Nat} (h : i < l.length) : rSum (l.take (i + 1)) = rSum (l.take i) + (l[i].2 - l[i].1 + 1) := by
  rw [List.take_succ_eq_append_getElem h]
  generalize l.take i = m
  induction m with
  | nil => simp [rSum]
  | cons p m ih => simp only [List.cons_append, rSum, ih]; omega
theorem rSum_bound : ∀ {l : List (Int × Int)} {b : Int}, rDesc b l → 0 ≤ b → 0 ≤ rSum l ∧ rSum l ≤ b
  | [], b, _, h => by simp [rSum]; exact h
  | p :: l, b, ⟨h1, h2, h3, h4⟩, _ => by
    rw [rSum]
    by_cases hp : 1 ≤ p.1
    · have := rSum_bound h4 (by omega)
      omega
    · rcases l with _ | ⟨q, l⟩
      · simp [rSum]; omega
      · have := h4.2.2.1
        have := h4.1
        have := h4.2.1
        omega
theorem rDesc_takeB {l : List (Int × Int)} {b : Int} (h : rDesc b l) (hb : 0 ≤ b) (i : Nat) : 0 ≤ rSum (l.take i) ∧ rSum (l.take i) ≤ b := rSum_bound (rDesc_take i h) hb

set_option maxHeartbeats 4000000 in
theorem many_any {lo up : Nat} {A : Option Addr} {n c : Nat} {l : List (Int × Int)} {w : World} (hr : Sl w lo up 2 A n c (rCells l)) (hup : up ≤ w.heap.size) (hn : n ≤ 1000) (hl : rWf l) :
    Calls Try.prog 16 #[.slice A n c] w fun e w' => e = .returned (.int .i64 (rMany (rOf l))) ∧ Below w.heap.size w w' := by
  have H := Lib.hid (fun W (h : Sl W lo up 2 A n c (rCells l)) hu => of_any (w := W) h hu hn hl)
  have HR := Lib.hid hr
  clear hr hl
  obtain ⟨r, hr⟩ : ∃ r, r = rMany (rOf l) := ⟨_, rfl⟩
  have HX := Lib.hid hr
  rw [← hr]
  clear hr
  go_enter Try.func16, Try.ntmps16
  go_wp2_with fail
  refine (H.out _ HR.out hup).mono ?_
  rintro e w1 ⟨A1, n1, c1, rfl, hs, hb⟩
  have hd := rOf_desc l
  have hlen : n1 = (rOf l).length := by have := hs.len; rw [rCells_length] at this; omega
  subst hlen
  have hn1 : (rOf l).length ≤ 16 := hd.2
  have HD := Lib.hid hd
  have HS := Lib.hid hs
  clear hs hd
  generalize hL : rOf l = L at *
  clear hL
  have z1 := hb.size
  go_wp2_with fail
  go_loopg [2, 8] L.length (fun gh s2 s8 wr => ∃ i : Nat, gh = L.length - i ∧ i ≤ L.length ∧ s8 = .int .i64 i ∧ s2 = .int .i64 (rSum (L.take i) - i) ∧ Below w1.heap.size w1 wr)
  case atStart => exact ⟨0, by omega, by omega, rfl, rfl, Below.refl _ _⟩
  case round =>
    obtain ⟨i, hg, hi, rfl, rfl, bb⟩ := hrel
    have z2 := bb.size
    by_cases h : i < L.length
    · obtain ⟨g, o, rfl, hgu, hc⟩ := slr_cell (HS.out.below bb (by omega)) (by omega)
      have k1 := (hc i h).1
      have k2 := (hc i h).2
      have a1 := addr_add g o (i * 2)
      have hx := rDesc_mem HD.out.1 L[i] (List.getElem_mem h)
      have hs1 := rDesc_takeB HD.out.1 (by omega) i
      have hs2 := rDesc_takeB HD.out.1 (by omega) (i + 1)
      have hst := rSum_take h
      have Hst := Lib.hid hst
      rw [hst] at hs2
      clear hc hst
      have hgl : g < wr.heap.size := by omega
      generalize rSum (L.take i) = S at *
      generalize L[i].1 = x at *
      generalize L[i].2 = y at *
      go_wp2_with fail
      go_roundg (L.length - (i + 1))
      case measure => omega
      case rel => exact ⟨i + 1, rfl, by omega, by simp, by rw [Hst.out]; go_num, bb.alloc z2 _⟩
    · obtain rfl : i = L.length := by omega
      have hs1 := rSum_bound HD.out.1 (by omega)
      have hm := HX.out
      unfold rMany at hm
      have Hm := Lib.hid hm
      clear hm
      rw [List.take_length]
      generalize rSum L = S at *
      go_wp2_with fail
      refine (H.out _ (HR.out.below (hb.trans (bb.mono z1)) hup) (by omega)).mono ?_
      rintro e w2 ⟨A2, n2, c2, rfl, hs2, hb2⟩
      have hn2 : n2 = L.length := by have := hs2.len; rw [rCells_length] at this; omega
      subst hn2
      clear hs2
      have bb := bb.trans (hb2.mono z2)
      go_wp2
      all_goals
        go_ret
        refine ⟨?_, hb.trans (bb.mono z1)⟩
        rw [Hm.out]
        first | (rw [show min S 4611686018427387903 = 4611686018427387903 from by omega]; rfl) | (rw [show min S 4611686018427387903 = S from by omega]; rfl)

theorem rSum_next : ∀ {l : List (Int × Int)} {b : Int} {i : Nat}, rDesc b l → ∀ h : i < l.length, rSum (l.take i) + l[i].2 < b
  | p :: l, b, 0, ⟨_, _, h, _⟩, _ => by simp [rSum]; exact h
  | p :: l, b, i + 1, ⟨h1, h2, h3, h4⟩, h => by
    have := rSum_next (i := i) h4 (by simpa using h)
    simp only [List.take_succ_cons, rSum, List.getElem_cons_succ]
    omega

theorem rcheck_fits {lo up : Nat} {A : Option Addr} {n c : Nat} {l : List (Int × Int)} (hn : n ≤ 1000) (hl : rWf l) (W : World) (h : Sl W lo up 2 A n c (rCells l)) (hu : up ≤ W.heap.size) :
    Calls Try.prog 13 #[.slice A n c] W fun e w' => e = .returned (.bool (rOk l)) ∧ Below W.heap.size W w' := rcheck_any h hu hn hl (rOk l) (rOk_iff l)

set_option maxHeartbeats 4000000 in
theorem rmany_any {lo up : Nat} {A : Option Addr} {n c : Nat} {l : List (Int × Int)} {w : World} (hr : Sl w lo up 2 A n c (rCells l)) (hup : up ≤ w.heap.size) (hn : n ≤ 1000) (hl : rWf l) :
    Calls Try.prog 17 #[.slice A n c] w fun e w' => e = .returned (.int .i64 (rMany (rOf l))) ∧ Below w.heap.size w w' := by
  have H := Lib.hid (rcheck_fits hn hl w hr hup)
  have hlen : n = l.length := by have := hr.len; rw [rCells_length] at this; omega
  subst hlen
  have HR := Lib.hid hr
  clear hr hl
  obtain ⟨r, hr⟩ : ∃ r, r = rMany (rOf l) := ⟨_, rfl⟩
  have HX := Lib.hid hr
  rw [← hr]
  clear hr
  by_cases hk : rOk l = true
  rotate_left
  · have hk2 : rOk l = false := by simpa using hk
    have hx := HX.out
    rw [show rOf l = [] from if_neg hk, show rMany [] = 0 from rfl] at hx
    subst hx
    rw [hk2] at H
    clear hk hk2 HX
    go_enter Try.func17, Try.ntmps17
    go_wp2_with fail
    refine H.out.mono ?_
    rintro e w1 ⟨rfl, hb⟩
    by_cases h : 0 < l.length
    · go_wp2
      go_rounds 1
      go_ret
      exact ⟨rfl, hb⟩
    · obtain h0 : l.length = 0 := by omega
      rw [h0]
      go_wp2
      go_rounds 1
      go_ret
      exact ⟨rfl, hb⟩
  have hd := rOk_desc hk
  rw [rOf_ok hk] at HX
  rw [hk] at H
  have HD := Lib.hid hd
  have hn1 : l.length ≤ 16 := hd.2
  clear hk hd
  go_enter Try.func17, Try.ntmps17
  go_wp2_with fail
  refine H.out.mono ?_
  rintro e w1 ⟨rfl, hb⟩
  have z1 := hb.size
  go_wp2_with fail
  go_loopg [4, 5] l.length (fun gh s4 s5 wr => ∃ i : Nat, gh = l.length - i ∧ i ≤ l.length ∧ s5 = .int .i64 i ∧ s4 = .int .i64 (rSum (l.take i)) ∧ ∃ q, wr = w1.drewN q)
  case atStart => exact ⟨0, by omega, by omega, rfl, rfl, 0, rfl⟩
  case round =>
    obtain ⟨i, hg, hi, rfl, rfl, q, rfl⟩ := hrel
    by_cases h : i < l.length
    · obtain ⟨g, o, rfl, hgu, hc⟩ := slr_cell (HR.out.below hb (by omega)) (by omega)
      have k1 := (hc i h).1
      have k2 := (hc i h).2
      have a1 := addr_add g o (i * 2)
      have hx := rDesc_mem HD.out.1 l[i] (List.getElem_mem h)
      have hs1 := rDesc_takeB HD.out.1 (by omega) i
      have hs2 := rDesc_takeB HD.out.1 (by omega) (i + 1)
      have hs3 := rSum_next HD.out.1 h
      have hst := rSum_take h
      have Hst := Lib.hid hst
      rw [hst] at hs2
      clear hc hst
      generalize rSum (l.take i) = S at *
      generalize l[i].1 = x at *
      generalize l[i].2 = y at *
      have e1 : IntKind.i64.wrap (S + y) = S + y := IntWalk.i64_in _ (by omega)
      have e2 : IntKind.i64.wrap (S + y - x) = S + y - x := IntWalk.i64_in _ (by omega)
      have e3 : IntKind.i64.wrap (S + y - x + 1) = S + (y - x + 1) := by rw [IntWalk.i64_in _ (by omega)]; omega
      go_wp2_with fail
      go_quiet (skip)
      go_wp2
      clear e1 e2 e3
      go_roundg (l.length - (i + 1))
      case measure => omega
      case rel => exact ⟨i + 1, rfl, by omega, by simp, by rw [Hst.out], _, rfl⟩
    · obtain rfl : i = l.length := by omega
      have hs1 := rSum_bound HD.out.1 (by omega)
      have hm := HX.out
      unfold rMany at hm
      have Hm := Lib.hid hm
      clear hm
      rw [List.take_length]
      generalize rSum l = S at *
      go_wp2
      all_goals
        go_ret
        refine ⟨?_, below_drewN hb _⟩
        rw [Hm.out]
        first | (rw [show min S 4611686018427387903 = 4611686018427387903 from by omega]; rfl) | (rw [show min S 4611686018427387903 = S from by omega]; rfl)

set_option maxHeartbeats 4000000 in
theorem rhas_any {lo up : Nat} {A : Option Addr} {n c : Nat} {l : List (Int × Int)} {x : Int} {w : World} (hr : Sl w lo up 2 A n c (rCells l)) (hup : up ≤ w.heap.size) (hn : n ≤ 1000) (hl : rWf l) :
    Calls Try.prog 15 #[.slice A n c, .int .i64 x] w fun e w' => e = .returned (.bool (rHas (rOf l) x)) ∧ Below w.heap.size w w' := by
  have H := Lib.hid (rcheck_fits hn hl w hr hup)
  have hlen : n = l.length := by have := hr.len; rw [rCells_length] at this; omega
  subst hlen
  have HR := Lib.hid hr
  clear hr hl
  obtain ⟨r, hr⟩ : ∃ r, r = rHas (rOf l) x := ⟨_, rfl⟩
  have HX := Lib.hid hr
  rw [← hr]
  clear hr
  by_cases hk : rOk l = true
  rotate_left
  · have hk2 : rOk l = false := by simpa using hk
    have hx := HX.out
    rw [show rOf l = [] from if_neg hk, show rHas [] x = false from rfl] at hx
    subst hx
    rw [hk2] at H
    clear hk hk2 HX
    go_enter Try.func15, Try.ntmps15
    go_wp2_with fail
    refine H.out.mono ?_
    rintro e w1 ⟨rfl, hb⟩
    by_cases h : 0 < l.length
    · go_wp2
      go_rounds 1
      go_ret
      exact ⟨rfl, hb⟩
    · obtain h0 : l.length = 0 := by omega
      rw [h0]
      go_wp2
      go_rounds 1
      go_ret
      exact ⟨rfl, hb⟩
  rw [rOf_ok hk] at HX
  rw [hk] at H
  clear hk
  go_enter Try.func15, Try.ntmps15
  go_wp2_with fail
  refine H.out.mono ?_
  rintro e w1 ⟨rfl, hb⟩
  have z1 := hb.size
  go_wp2_with fail
  go_loopg [6] l.length (fun gh s6 wr => ∃ i : Nat, gh = l.length - i ∧ i ≤ l.length ∧ s6 = .int .i64 i ∧ wr = w1 ∧ Hid (∀ j (h : j < l.length), j < i → ¬ (l[j].1 ≤ x ∧ x ≤ l[j].2)))
  case atStart => exact ⟨0, by omega, by omega, rfl, rfl, Lib.hid (fun _ _ h => absurd h (by omega))⟩
  case round =>
    obtain ⟨i, hg, hi, rfl, rfl, hall⟩ := hrel
    by_cases h : i < l.length
    · obtain ⟨g, o, rfl, hgu, hc⟩ := slr_cell (HR.out.below hb (by omega)) (by omega)
      have k1 := (hc i h).1
      have k2 := (hc i h).2
      have a1 := addr_add g o (i * 2)
      by_cases hin : l[i].1 ≤ x ∧ x ≤ l[i].2
      · have hx : r = true := by
          rw [HX.out]
          exact List.any_eq_true.2 ⟨l[i], List.getElem_mem h, by simpa using hin⟩
        subst hx
        obtain ⟨h1, h2⟩ := hin
        clear hc hall HX
        generalize l[i].1 = u at *
        generalize l[i].2 = v at *
        go_wp2
        go_ret
        exact ⟨rfl, hb⟩
      · have hall2 : ∀ j (h : j < l.length), j < i + 1 → ¬ (l[j].1 ≤ x ∧ x ≤ l[j].2) := by
          intro j hj hj1
          by_cases hji : j < i
          · exact hall.out j hj hji
          · obtain rfl : j = i := by omega
            exact hin
        have Hall2 := Lib.hid hall2
        clear hc hall hall2
        generalize l[i].1 = u at *
        generalize l[i].2 = v at *
        by_cases h1 : u ≤ x
        · have h2 : ¬ x ≤ v := fun h2 => hin ⟨h1, h2⟩
          clear hin
          go_wp2
          go_roundg (l.length - (i + 1))
          case measure => omega
          case rel => exact ⟨i + 1, rfl, by omega, by simp, rfl, Hall2⟩
        · clear hin
          go_wp2
          go_roundg (l.length - (i + 1))
          case measure => omega
          case rel => exact ⟨i + 1, rfl, by omega, by simp, rfl, Hall2⟩
    · obtain rfl : i = l.length := by omega
      have hx : r = false := by
        rw [HX.out]
        refine List.any_eq_false.2 fun p hp => ?_
        obtain ⟨j, hj, rfl⟩ := List.getElem_of_mem hp
        simpa using hall.out j hj hj
      subst hx
      clear hall
      go_wp2
      go_ret
      exact ⟨rfl, hb⟩
end Go.Proofs.Ytgckedeaoglehaa
