/- The walk of SentWhen. -/
import Derived.Test.YtgebebdapfnmpaaO
namespace Go.Proofs.Ytgebebdapfnmpaa
open Go.RowKit
set_option linter.unusedVariables false
set_option linter.unusedSimpArgs false
attribute [local go_sem ↓] Go.wp_at_zero Go.wp_at_succ

theorem when_long {A : Option Addr} {n c : Nat} {x t m : Int} {w : World} (hn : 300 < n) : Calls Try.prog 3 #[.slice A n c, .int .i64 x, .int .u16 t, .int .u16 m] w fun e w' => e = .returned (.bool true) ∧ Below w.heap.size w w' := by
  go_enter Try.func3, Try.ntmps3
  go_wp2_with fail
  refine (awake_any _).mono ?_
  rintro e w1 ⟨rfl, bb⟩
  go_wp2
  go_ret
  exact ⟨rfl, bb⟩

set_option maxHeartbeats 4000000 in
theorem when_bad {A : Option Addr} {n c : Nat} {l : List Pk} {x t m : Int} {w : World} (hr : Sl w 0 w.heap.size 5 A n c (pCells l)) (hn : n ≤ 300) (hl : pWf l) (hg : ¬ pGood l) : Calls Try.prog 3 #[.slice A n c, .int .i64 x, .int .u16 t, .int .u16 m] w fun e w' => e = .returned (.bool true) ∧ Below w.heap.size w w' := by
  have hlen : n = l.length := by have := hr.len; rw [pCells_length] at this; omega
  have HC := Lib.hid (fun (W : World) (bb : Below w.heap.size w W) => check_any (hr.below bb (Nat.le_refl _)) bb.size (by omega) hl false (by constructor; intro h; cases h; intro h; exact absurd h.1 hg))
  clear hr hl hg hlen
  go_enter Try.func3, Try.ntmps3
  go_wp2_with fail
  refine (awake_any _).mono ?_
  rintro e w1 ⟨rfl, bb⟩
  have z1 := bb.size
  go_wp2_with fail
  refine (HC.out _ bb).mono ?_
  rintro e w2 ⟨rfl, hb⟩
  have bb := bb.trans (hb.mono z1)
  clear hb HC
  go_wp2
  go_ret
  exact ⟨rfl, bb⟩

set_option maxHeartbeats 4000000 in
theorem when_far {A : Option Addr} {n c : Nat} {l : List Pk} {x t m : Int} {w : World} (hr : Sl w 0 w.heap.size 5 A n c (pCells l)) (hn : n ≤ 300) (hl : pWf l) (hg : pGood l) (hx : 1152921504606846976 < x) : Calls Try.prog 3 #[.slice A n c, .int .i64 x, .int .u16 t, .int .u16 m] w fun e w' => e = .returned (.bool true) ∧ Below w.heap.size w w' := by
  have hlen : n = l.length := by have := hr.len; rw [pCells_length] at this; omega
  have HC := Lib.hid (fun (W : World) (bb : Below w.heap.size w W) => check_any (hr.below bb (Nat.le_refl _)) bb.size (by omega) hl true (by simp only [true_iff]; exact ⟨hg, by omega⟩))
  clear hr hl hg hlen
  go_enter Try.func3, Try.ntmps3
  go_wp2_with fail
  refine (awake_any _).mono ?_
  rintro e w1 ⟨rfl, bb⟩
  have z1 := bb.size
  go_wp2_with fail
  refine (HC.out _ bb).mono ?_
  rintro e w2 ⟨rfl, hb⟩
  have bb := bb.trans (hb.mono z1)
  clear hb HC
  go_wp2
  go_ret
  exact ⟨rfl, bb⟩

set_option maxHeartbeats 4000000 in
theorem when_deep {A : Option Addr} {n c : Nat} {l : List Pk} {x t m : Int} {w : World} (hr : Sl w 0 w.heap.size 5 A n c (pCells l)) (hn : n ≤ 300) (hl : pWf l) (hg : pGood l) (hx : x < -1152921504606846976) : Calls Try.prog 3 #[.slice A n c, .int .i64 x, .int .u16 t, .int .u16 m] w fun e w' => e = .returned (.bool true) ∧ Below w.heap.size w w' := by
  have hlen : n = l.length := by have := hr.len; rw [pCells_length] at this; omega
  have HC := Lib.hid (fun (W : World) (bb : Below w.heap.size w W) => check_any (hr.below bb (Nat.le_refl _)) bb.size (by omega) hl true (by simp only [true_iff]; exact ⟨hg, by omega⟩))
  clear hr hl hg hlen
  go_enter Try.func3, Try.ntmps3
  go_wp2_with fail
  refine (awake_any _).mono ?_
  rintro e w1 ⟨rfl, bb⟩
  have z1 := bb.size
  go_wp2_with fail
  refine (HC.out _ bb).mono ?_
  rintro e w2 ⟨rfl, hb⟩
  have bb := bb.trans (hb.mono z1)
  clear hb HC
  go_wp2
  go_ret
  exact ⟨rfl, bb⟩

set_option maxHeartbeats 4000000 in
set_option maxRecDepth 100000 in
theorem when_ok {A : Option Addr} {n c : Nat} {l : List Pk} {x t m : Int} {w : World} (hr : Sl w 0 w.heap.size 5 A n c (pCells l)) (hn : n ≤ 300) (hl : pWf l) (hg : pGood l) (hx : -1152921504606846976 ≤ x ∧ x ≤ 1152921504606846976) (ht : 0 ≤ t ∧ t ≤ 65535) (hm : 0 ≤ m ∧ m ≤ 65535) : Calls Try.prog 3 #[.slice A n c, .int .i64 x, .int .u16 t, .int .u16 m] w fun e w' => e = .returned (.bool true) ∧ Below w.heap.size w w' := by
  have hlen : n = l.length := by have := hr.len; rw [pCells_length] at this; omega
  subst hlen
  have hok : pOk l := ⟨hg, by omega⟩
  have hlaw := wh_law x t l
  have HC := Lib.hid (fun (W : World) (bb : Below w.heap.size w W) => check_any (hr.below bb (Nat.le_refl _)) bb.size (by omega) hl true (by simp only [true_iff]; exact hok))
  have HW := Lib.hid (fun (W : World) (bb : Below w.heap.size w W) => by have := when_any (x := x) (y := t) (hr.below bb (Nat.le_refl _)) bb.size (by omega) hl (.inl ⟨hok, rfl⟩); rw [tm_id ht.1 (by omega)] at this; exact this)
  have HL := Lib.hid (fun (y : Int) (h0 : 0 ≤ y) (h1 : y ≤ 1099511627776) (W : World) (bb : Below w.heap.size w W) => by have := lost_any (hr.below bb (Nat.le_refl _)) bb.size (by omega) hl (.inl ⟨hok, rfl⟩) x y t (by omega); rw [tm_id h0 h1, tm_id ht.1 (by omega)] at this; exact this)
  have HR := Lib.hid hr
  have HG := Lib.hid (good_bnd hg)
  have HO := Lib.hid hok
  have HLW := Lib.hid hl
  have HLAW := Lib.hid hlaw
  clear hr hl hg hok hlaw
  obtain ⟨r, hr⟩ : ∃ r, r = wh x t l := ⟨_, rfl⟩
  rw [← hr] at HLAW HW
  clear hr
  obtain ⟨t0, b⟩ := r
  go_enter Try.func3, Try.ntmps3
  go_wp2_with fail
  refine (awake_any _).mono ?_
  rintro e w1 ⟨rfl, bb⟩
  have z1 := bb.size
  go_wp2_with fail
  refine (HC.out _ bb).mono ?_
  rintro e w2 ⟨rfl, hb⟩
  have bb := bb.trans (hb.mono z1)
  have z1 := bb.size
  clear hb HC
  go_wp2_with fail
  go_loopg [10] l.length (fun gh s10 wr => ∃ i : Nat, gh = l.length - i ∧ i ≤ l.length ∧ s10 = .int .i64 i ∧ w2 = wr ∧ Hid (∀ j (h : j < l.length), j < i → l[j].ti ≤ 1073741824))
  case atStart => exact ⟨0, by omega, by omega, rfl, rfl, Lib.hid (fun _ _ h => absurd h (by omega))⟩
  case round =>
    obtain ⟨i, hg, hi, rfl, rfl, hall⟩ := hrel
    by_cases h : i < l.length
    · obtain ⟨g, o, rfl, hgu, hc⟩ := slp_cell (HR.out.below bb (Nat.le_refl _)) (by omega)
      have k1 := (hc i h).2.1
      have a1 := addr_add g o (i * 5)
      have hx1 := (HG.out l[i] (List.getElem_mem h)).2.1
      clear hc
      by_cases h2 : l[i].ti ≤ 1073741824
      · have hall2 : ∀ j (h : j < l.length), j < i + 1 → l[j].ti ≤ 1073741824 := by
          intro j hj hj1
          by_cases hji : j < i
          · exact hall.out j hj hji
          · obtain rfl : j = i := by omega
            exact h2
        have Hall2 := Lib.hid hall2
        clear hall2 hall
        generalize l[i].ti = y at *
        go_wp2_with fail
        go_roundg (l.length - (i + 1))
        case measure => omega
        case rel => exact ⟨i + 1, rfl, by omega, by simp, rfl, Hall2⟩
      · clear hall
        generalize l[i].ti = y at *
        go_wp2_with fail
        go_ret
        exact ⟨rfl, bb⟩
    · obtain rfl : i = l.length := by omega
      have HT : Hid (∀ p ∈ l, p.ti ≤ 1073741824) := Lib.hid (fun p hp => by obtain ⟨j, hj, rfl⟩ := List.getElem_of_mem hp; exact hall.out j hj hj)
      clear hall
      go_wp2_with fail
      refine (HW.out _ bb).mono ?_
      rintro e w3 ⟨rfl, hb⟩
      have bb := bb.trans (hb.mono z1)
      have z1 := bb.size
      clear hb HW
      cases b
      · have hL := HL.out 1099511627776 (by omega) (by omega)
        rw [lost_none (HLAW.out.1 rfl)] at hL
        have HL1 := Lib.hid hL
        clear hL HL
        go_wp2_with fail
        refine (HL1.out _ bb).mono ?_
        rintro e w4 ⟨A1, c1, A2, c2, rfl, _, _, hb⟩
        simp only [List.length_nil]
        have bb := bb.trans (hb.mono z1)
        clear hb HL1
        generalize (l.filter fun p => !lostIs x 1099511627776 t p).length = q at *
        go_wp2
        go_ret
        exact ⟨rfl, bb⟩
      · obtain ⟨⟨p0, hp0, hp1, hp2⟩, hall⟩ := HLAW.out.2 rfl
        have hb0 : t0 ≤ 1073807359 ∧ 0 ≤ t0 := by have := HT.out p0 hp0; have := (HG.out p0 hp0).2.1; simp only at hp2; omega
        obtain ⟨C, hC⟩ : ∃ C, C = l.filter (lostIs x (t0 + m) t) := ⟨_, rfl⟩
        obtain ⟨D, hD⟩ : ∃ D, D = l.filter (fun p => !lostIs x (t0 + m) t p) := ⟨_, rfl⟩
        obtain ⟨y, hy⟩ : ∃ y, y = max (t0 - 1) 0 := ⟨_, rfl⟩
        obtain ⟨E, hE⟩ : ∃ E, E = l.filter (lostIs x y t) := ⟨_, rfl⟩
        obtain ⟨F, hF⟩ : ∃ F, F = l.filter (fun p => !lostIs x y t p) := ⟨_, rfl⟩
        have hl1 := HL.out (t0 + m) (by omega) (by omega)
        have hl2 := HL.out y (by omega) (by omega)
        rw [← hC, ← hD] at hl1
        rw [← hE, ← hF] at hl2
        have HL1 := Lib.hid hl1
        have HL2 := Lib.hid hl2
        have hCl : 1 ≤ C.length ∧ C.length ≤ 300 := by
          refine ⟨?_, by rw [hC]; have := List.length_filter_le (lostIs x (t0 + m) t) l; omega⟩
          refine List.length_pos_of_mem (a := p0) ?_
          rw [hC, List.mem_filter]
          refine ⟨hp0, ?_⟩
          simp only [lostIs, decide_eq_true_eq]
          exact ⟨hp1, .inr (by simp only at hp2; omega)⟩
        have hDl : D.length ≤ 300 := by rw [hD]; have := List.length_filter_le (fun p => !lostIs x (t0 + m) t p) l; omega
        have hFl : F.length ≤ 300 := by rw [hF]; have := List.length_filter_le (fun p => !lostIs x y t p) l; omega
        have hEl : E.length ≤ 300 := by rw [hE]; have := List.length_filter_le (lostIs x y t) l; omega
        have hEp : ∀ p ∈ E, (t0 = 0 ∨ p.no ≤ x - 3) ∧ 0 ≤ p.no := by
          intro p hp
          rw [hE, List.mem_filter] at hp
          obtain ⟨h1, h2⟩ := hp
          refine ⟨?_, (HG.out p h1).1⟩
          simp only [lostIs, decide_eq_true_eq] at h2
          have := hall p h1 h2.1
          simp only at this
          rcases Classical.em (t0 = 0) with h0 | h0
          · exact .inl h0
          · exact .inr (by rcases h2.2 with h3 | h3 <;> omega)
        have hDo : pOk D := by rw [hD]; exact pOk_filter _ HO.out
        have hDw : pWf D := by rw [hD]; exact fun p hp => HLW.out p (List.mem_filter.1 hp).1
        have hD1 : D.filter (lostIs x (t0 + m) t) = [] := by rw [hD]; exact lost_again
        have hD2 : D.filter (fun p => !lostIs x (t0 + m) t p) = D := by rw [hD]; exact kept_again
        have HLD := Lib.hid (fun (W : World) (lo up c : Nat) (A : Option Addr) (h : Sl W lo up 5 A D.length c (pCells D)) (hu : up ≤ W.heap.size) => by have := lost_any h hu (by omega) hDw (.inl ⟨hDo, rfl⟩) x (t0 + m) t (by omega); rw [tm_id (show 0 ≤ t0 + m from by omega) (by omega), tm_id ht.1 (by omega), hD1, hD2] at this; exact this)
        have HEP := Lib.hid hEp
        clear hl1 hl2 hDo hDw hD1 hD2 hEp hC hD hE hF HL hall hp0 hp1 hp2 HT HG HO HLW HLAW HR
        go_wp2_with fail
        refine (HL1.out _ bb).mono ?_
        rintro e w4 ⟨A1, c1, A2, c2, rfl, o1, o2, hb⟩
        have bb := bb.trans (hb.mono z1)
        have sD := Sl.of_own o2
        have z1 := bb.size
        have z2 := hb.size
        clear hb HL1 o1 o2
        have HSD := Lib.hid sD
        clear sD
        by_cases ht1 : 0 ≤ t0 - 1
        · skip
          obtain rfl : y = t0 - 1 := by omega
          clear hy
          go_wp2_with fail
          refine (HL2.out _ bb).mono ?_
          rintro e w5 ⟨A3, c3, A4, c4, rfl, o1, o2, hb⟩
          have bb := bb.trans (hb.mono z1)
          have sE := Sl.of_own o1
          have z1 := bb.size
          have z3 := hb.size
          have HSD5 := Lib.hid (HSD.out.below hb (Nat.le_refl _))
          have HSE := Lib.hid sE
          clear hb HL2 o1 o2 sE HSD
          go_wp2_with fail
          go_loopg [19] E.length (fun gh s19 wr => ∃ i : Nat, gh = E.length - i ∧ i ≤ E.length ∧ s19 = .int .i64 i ∧ w5 = wr)
          case atStart => exact ⟨0, by omega, by omega, rfl, rfl⟩
          case round =>
            obtain ⟨i, hg, hi, rfl, rfl⟩ := hrel
            by_cases h : i < E.length
            rotate_left
            · obtain rfl : i = E.length := by omega
              go_wp2_with fail
              refine (HLD.out w5 _ _ _ _ HSD5.out (by omega)).mono ?_
              rintro e w6 ⟨A5, c5, A6, c6, rfl, _, o2, hb⟩
              simp only [List.length_nil]
              have bb := bb.trans (hb.mono z1)
              have z1 := bb.size
              have z4 := hb.size
              have HSD6 := Lib.hid (HSD5.out.below hb (by omega))
              have HSG := Lib.hid (Sl.of_own o2)
              clear hb HLD o2 HSD5
              go_wp2_with fail
              refine (same_same HSG.out HSD6.out (by omega)).mono ?_
              rintro e w7 ⟨rfl, hb⟩
              have bb := bb.trans (hb.mono z1)
              go_wp2
              go_ret
              exact ⟨rfl, bb⟩
            obtain ⟨g, o, rfl, hgu, hc⟩ := slp_cell HSE.out (by omega)
            have k1 := (hc i h).1
            have a1 := addr_add g o (i * 5)
            have hep := HEP.out E[i] (List.getElem_mem h)
            clear hc
            generalize E[i].no = no at *
            go_wp2_with fail
            go_roundg (E.length - (i + 1))
            case measure => omega
            case rel => exact ⟨i + 1, rfl, by omega, by simp, rfl⟩
        · obtain rfl : t0 = 0 := by omega
          simp only [Int.zero_add] at HLD
          obtain rfl : y = 0 := by omega
          clear hy
          go_wp2_with fail
          refine (HL2.out _ bb).mono ?_
          rintro e w5 ⟨A3, c3, A4, c4, rfl, o1, o2, hb⟩
          have bb := bb.trans (hb.mono z1)
          have sE := Sl.of_own o1
          have z1 := bb.size
          have z3 := hb.size
          have HSD5 := Lib.hid (HSD.out.below hb (Nat.le_refl _))
          have HSE := Lib.hid sE
          clear hb HL2 o1 o2 sE HSD
          go_wp2_with fail
          go_loopg [19] E.length (fun gh s19 wr => ∃ i : Nat, gh = E.length - i ∧ i ≤ E.length ∧ s19 = .int .i64 i ∧ w5 = wr)
          case atStart => exact ⟨0, by omega, by omega, rfl, rfl⟩
          case round =>
            obtain ⟨i, hg, hi, rfl, rfl⟩ := hrel
            by_cases h : i < E.length
            rotate_left
            · obtain rfl : i = E.length := by omega
              go_wp2_with fail
              refine (HLD.out w5 _ _ _ _ HSD5.out (by omega)).mono ?_
              rintro e w6 ⟨A5, c5, A6, c6, rfl, _, o2, hb⟩
              simp only [List.length_nil]
              have bb := bb.trans (hb.mono z1)
              have z1 := bb.size
              have z4 := hb.size
              have HSD6 := Lib.hid (HSD5.out.below hb (by omega))
              have HSG := Lib.hid (Sl.of_own o2)
              clear hb HLD o2 HSD5
              go_wp2_with fail
              refine (same_same HSG.out HSD6.out (by omega)).mono ?_
              rintro e w7 ⟨rfl, hb⟩
              have bb := bb.trans (hb.mono z1)
              go_wp2
              go_ret
              exact ⟨rfl, bb⟩
            obtain ⟨g, o, rfl, hgu, hc⟩ := slp_cell HSE.out (by omega)
            have k1 := (hc i h).1
            have a1 := addr_add g o (i * 5)
            have hep := HEP.out E[i] (List.getElem_mem h)
            clear hc
            generalize E[i].no = no at *
            by_cases hh : x - 3 < no
            · go_wp2_with fail
              go_roundg (E.length - (i + 1))
              case measure => omega
              case rel => exact ⟨i + 1, rfl, by omega, by simp, rfl⟩
            · go_wp2_with fail
              go_roundg (E.length - (i + 1))
              case measure => omega
              case rel => exact ⟨i + 1, rfl, by omega, by simp, rfl⟩
end Go.Proofs.Ytgebebdapfnmpaa
