/- The walk of ranges.Add. -/
import Derived.Test.YtgckedeaoglehaaI
import Derived.Outline
import Derived.WalkMore
import Derived.Deep.DeepCutAuto
import Derived.Deep.CutRange
import Derived.StillTailTactics
namespace Go.Proofs.Ytgckedeaoglehaa
open Go.RowKit
set_option linter.unusedVariables false
set_option linter.unusedSimpArgs false
attribute [local go_sem ↓] Go.wp_at_zero Go.wp_at_succ

/-- The closures of Add. -/
theorem same_fn {x y a b : Int} {g : Nat} {w : World} (hk : Blk w g 34 #[.int .i64 a, .int .i64 b]) :
    Calls Try.prog 23 #[.agg #[.int .i64 x, .int .i64 y], .pointer (some ⟨g, 0, none⟩)] w fun e w' => e = .returned (.bool (decide ((x, y) = (a, b)))) ∧ Below w.heap.size w w' := by
  have ⟨kc, kf⟩ := hk.rules
  have hlt := hk.lt
  by_cases h1 : x = a
  · subst h1
    by_cases h2 : y = b
    · subst h2
      have hd : decide ((x, y) = (x, y)) = true := by simp
      rw [hd]
      clear hk hd
      go_enter Try.func23, Try.ntmps23
      go_wp2
      go_ret
      exact ⟨rfl, (Below.refl _ _).alloc (Nat.le_refl _) _⟩
    · have hd : decide ((x, y) = (x, b)) = false := by simp [h2]
      rw [hd]
      have h3 : (y == b) = false := by simpa using h2
      clear hk hd h2
      go_enter Try.func23, Try.ntmps23
      go_wp2
      go_ret
      exact ⟨rfl, (Below.refl _ _).alloc (Nat.le_refl _) _⟩
  · have hd : decide ((x, y) = (a, b)) = false := by simp [h1]
    rw [hd]
    have h3 : (x == a) = false := by simpa using h1
    clear hk hd h1
    go_enter Try.func23, Try.ntmps23
    go_wp2
    go_ret
    exact ⟨rfl, (Below.refl _ _).alloc (Nat.le_refl _) _⟩
theorem under_fn {x y n : Int} {g : Nat} {w : World} (hk : Blk w g 3 #[.int .i64 n]) :
    Calls Try.prog 25 #[.agg #[.int .i64 x, .int .i64 y], .pointer (some ⟨g, 0, none⟩)] w fun e w' => e = .returned (.bool (decide (y < n))) ∧ Below w.heap.size w w' := by
  have ⟨kc, kf⟩ := hk.rules
  have hlt := hk.lt
  clear hk
  go_enter Try.func25, Try.ntmps25
  go_wp2
  go_ret
  exact ⟨rfl, (Below.refl _ _).alloc (Nat.le_refl _) _⟩

theorem own_far {w : World} {base : Nat} {e : TypeId} {s : Nat} {v : Value} {n : Nat} {xs : List Value} (h : w.ownsRow base e s v n xs) {p : Addr} (hne : v.ownBlock ≠ some p.block) (u : Value) : (w.setCell p u).ownsRow base e s v n xs :=
  h.kept (row := some p.block) ⟨rfl, rfl, rfl, by simp, fun k _ hk => Below.heap_setCell w p u k (fun e => hk (by rw [e]))⟩ (.inr hne)
theorem own_take {w : World} {base s n c m : Nat} {e : TypeId} {A : Option Addr} {xs : List Value} (h : w.ownsRow base e s (.slice A n c) n xs) (hm : m ≤ n) (hn : 0 < n) : w.ownsRow base e s (.slice A m c) m (xs.take (m * s)) := by
  obtain ⟨g, cur, rfl, hb, hg, hnc, hcm, hcs, ht⟩ := own_split h hn
  refine own_mk hb hg (by omega) hcm hcs ?_
  rw [← ht, List.take_take, Nat.min_eq_left (Nat.mul_le_mul_right _ hm)]

/-- The place of the first range that lies below a number. -/
theorem below_at (L : List (Int × Int)) (x : Int) : ∃ K : Nat, K ≤ L.length ∧ (∀ j (hj : j < L.length), j < K → x ≤ L[j].2) ∧ (∀ hk : K < L.length, L[K].2 < x) ∧
    (rIdx (fun p => decide (p.2 < x)) L = K ∨ rIdx (fun p => decide (p.2 < x)) L = -1 ∧ K = L.length) := by
  by_cases h : L.any (fun p => decide (p.2 < x)) = true
  · have hlt : L.findIdx (fun p => decide (p.2 < x)) < L.length := List.findIdx_lt_length_of_exists (by simpa using h)
    refine ⟨L.findIdx (fun p => decide (p.2 < x)), Nat.le_of_lt hlt, fun j hj hjk => ?_, fun hk => ?_, .inl ?_⟩
    · have := List.not_of_lt_findIdx hjk
      simp at this
      exact this
    · have := List.findIdx_getElem (w := hk)
      simpa using this
    · unfold rIdx
      rw [if_pos h]
  · refine ⟨L.length, Nat.le_refl _, fun j hj _ => ?_, fun hk => absurd hk (by omega), .inr ⟨?_, rfl⟩⟩
    · apply Int.not_lt.1
      intro hlt
      exact h (List.any_eq_true.2 ⟨L[j], List.getElem_mem hj, by simpa using hlt⟩)
    · unfold rIdx
      rw [if_neg h]
theorem one_there {L : List (Int × Int)} {x : Int} (h : L.any (fun p => decide (p = (x, x))) = true) : rHas L x = true := by
  obtain ⟨p, hp, hq⟩ := List.any_eq_true.1 h
  simp at hq
  subst hq
  exact List.any_eq_true.2 ⟨_, hp, by simp⟩

set_option maxHeartbeats 40000000 in
set_option maxRecDepth 100000 in
theorem add_any {lo up : Nat} {A : Option Addr} {n c : Nat} {l : List (Int × Int)} {x : Int} {w : World} (hr : Sl w lo up 2 A n c (rCells l)) (hup : up ≤ w.heap.size) (hn : n ≤ 1000) (hl : rWf l) (hx : -9223372036854775808 ≤ x ∧ x ≤ 9223372036854775807) :
    Calls Try.prog 10 #[.slice A n c, .int .i64 x] w (RetR w (rAdd l x)) := by
  have H := Lib.hid (fun W (h : Sl W lo up 2 A n c (rCells l)) hu => of_any (w := W) h hu hn hl)
  have HR := Lib.hid hr
  have hd := rOf_desc l
  have HF : Hid (rAdd l x = if 0 ≤ x ∧ x ≤ 4611686018427387903 then (rIns (x, x) (rOf l)).take 16 else rOf l) := rfl
  generalize rAdd l x = F at *
  generalize rOf l = L at *
  have hL := hd.2
  have HD := Lib.hid hd.1
  clear hr hl hd
  go_enter Try.func10, Try.ntmps10
  go_wp2_with fail
  go_step3
  go_wp2_with fail
  refine (H.out _ (HR.out.alloc hup _) (by simp; omega)).mono ?_
  rintro e w1 ⟨A1, n1, c1, rfl, hs, hb⟩
  have hn1 : n1 = L.length := by have := hs.len; rw [rCells_length] at this; omega
  subst hn1
  have hbk : Blk w1 w.heap.size 3 #[.int .i64 x] := (Blk.new w 3 #[.int .i64 x] rfl).below hb (by simp)
  have hz := hb.size
  simp only [World.size_alloc] at hz
  have bb := ((Below.refl _ w).alloc (Nat.le_refl _) (.cells #[.int .i64 x] 3)).trans (hb.mono (by simp))
  clear hb HR H
  have HC := Lib.hid (clone_any hs (by omega) (by omega))
  clear hs
  go_wp2_with fail
  refine HC.out.mono ?_
  clear HC
  rintro e w2 ⟨A2, c2, rfl, hown, hb2⟩
  have z2 := hb2.size
  have hbk := hbk.below hb2 (by omega)
  have bb := bb.trans (hb2.mono (by omega))
  clear hb2
  have ⟨kc, kf⟩ := hbk.rules
  by_cases h1 : x < 0
  · have hF := HF.out
    rw [if_neg (by omega)] at hF
    subst hF
    clear HF HD
    go_wp2
    try rw [Exit.noGoto_ret]
    go_ret
    exact ⟨A2, c2, rfl, own_more hown (by omega), bb⟩
  by_cases h2 : 4611686018427387903 < x
  · have hF := HF.out
    rw [if_neg (by omega)] at hF
    subst hF
    clear HF HD
    go_wp2
    try rw [Exit.noGoto_ret]
    go_ret
    exact ⟨A2, c2, rfl, own_more hown (by omega), bb⟩
  have hF := HF.out
  rw [if_pos (by omega)] at hF
  clear HF
  have HF := Lib.hid hF
  clear hF
  go_wp2_with fail
  have b1 : Blk (w2.alloc (.cells #[.int .i64 x, .int .i64 x] 34)) w2.heap.size 34 #[.int .i64 x, .int .i64 x] := Blk.new w2 34 _ rfl
  have hown1 := own_alloc hown (.cells #[.int .i64 x, .int .i64 x] 34)
  have hbk1 := hbk.alloc (.cells #[.int .i64 x, .int .i64 x] 34)
  have bb1 := bb.alloc (by omega) (.cells #[.int .i64 x, .int .i64 x] 34)
  have HC := Lib.hid (contains_any (g := w2.heap.size) (Sl.of_own hown1) (Nat.le_refl _) (by omega) 23 (by omega) (fun p => decide (p = (x, x))) (fun i h W hW => same_fn (b1.below hW (by simp))))
  obtain ⟨r, hr⟩ : ∃ r, r = L.any (fun p => decide (p = (x, x))) := ⟨_, rfl⟩
  rw [← hr] at HC
  have HQ := Lib.hid hr
  clear hr
  refine HC.out.mono ?_
  clear HC
  rintro e w3 ⟨rfl, hb3⟩
  have hown3 := own_below hown1 hb3 (Nat.le_refl _)
  have b3 := b1.later hb3
  have hbk3 := hbk1.later hb3
  have z3 := hb3.size
  simp only [World.size_alloc] at z3
  have bb3 := bb1.trans (hb3.mono (by simp; omega))
  have HA2 : Hid (∀ n g, Value.ownBlock (.slice A2 n c2) = some g → w1.heap.size ≤ g ∧ g < w2.heap.size) := Lib.hid (fun n g hg => hown.lt g (by cases A2 <;> exact hg))
  clear hb3 hown1 b1 hbk1 bb1 hown hbk bb kc kf
  cases r
  rotate_left
  · have hF := HF.out
    rw [rIns_there HD.out (one_there HQ.out.symm), List.take_of_length_le hL] at hF
    subst hF
    clear HF HD HQ
    go_wp2
    try rw [Exit.noGoto_ret]
    go_ret
    exact ⟨A2, c2, rfl, own_more hown3 (by omega), bb3⟩
  clear HQ
  obtain ⟨K, hK, hlo, hhi, hidx⟩ := below_at L x
  have J0 := Lib.hid (JInv.start HD.out (by omega) (by omega) hK hlo hhi)
  have HI := Lib.hid (index_any (g := w.heap.size) (Sl.of_own hown3) (Nat.le_refl _) (by omega) 25 (by omega) (fun p => decide (p.2 < x)) (fun i h W hW => under_fn (hbk3.below hW (by omega))))
  have HX := Lib.hid hidx
  generalize rIdx (fun p => decide (p.2 < x)) L = idx at *
  clear hlo hhi hidx
  go_wp2_with fail
  refine HI.out.mono ?_
  clear HI
  rintro e w4 ⟨rfl, hb4⟩
  have hown4 := own_below hown3 hb4 (Nat.le_refl _)
  have b4 := b3.later hb4
  have z4 := hb4.size
  have bb4 := bb3.trans (hb4.mono (by omega))
  clear hb4 hown3 b3 hbk3 bb3
  go_upto_if 29 with fail
  go_cut [7] (fun s7 wx => s7 = .int .i64 K ∧ wx = w4)
  case first =>
    rcases HX.out with hidx | ⟨hidx, hKL⟩
    all_goals
      first | (subst hidx hKL) | (subst hidx)
      go_wp2_with fail
      go_meet
      exact ⟨rfl, rfl⟩
  case rest =>
    obtain ⟨rfl, rfl⟩ := hcut
    clear HX
    go_wp2_with fail
    go_step3
    go_wp2_with fail
    go_loopg [5, 7] L.length (fun gh s5 s7 wr => ∃ (M : List (Int × Int)) (k : Nat) (o : Int × Int), gh = M.length ∧ s5 = .slice A2 M.length c2 ∧ s7 = .int .i64 k ∧ M.length ≤ 16 ∧ wr.ownsRow w1.heap.size 34 2 (.slice A2 M.length c2) M.length (rCells M) ∧
      Blk wr w2.heap.size 34 #[.int .i64 o.1, .int .i64 o.2] ∧ Below w.heap.size w wr ∧ Hid (JInv (rIns (x, x) L) 4611686018427387904 M k o))
    case atStart => exact ⟨L, K, (x, x), rfl, rfl, rfl, hL, hown4, b4, bb4, J0⟩
    case round =>
      clear J0 hown4 b4
      obtain ⟨M, k, o, hg, rfl, rfl, hM, hown, bO, bb, hJ⟩ := hrel
      have hkM := hJ.out.le
      have o0 := hJ.out.o0
      have o1 := hJ.out.o1
      have o2 := hJ.out.o2
      have ⟨kc, kf⟩ := bO.rules
      have bOl := bO.lt
      by_cases hk : 0 < k
      · obtain ⟨j, hjk⟩ : ∃ j, k = j + 1 := ⟨k - 1, by omega⟩
        have hj : j < M.length := by omega
        obtain ⟨g, ofs, rfl, hgu, hc⟩ := slr_cell (Sl.of_own hown) (by omega)
        have k1 := (hc j hj).1
        have k2 := (hc j hj).2
        have a1 := addr_add g ofs (j * 2)
        by_cases c1 : M[j].1 ≤ o.2 + 1
        · subst hjk
          have hu2 := hJ.out.up M[j] (by rw [List.mem_iff_getElem]; exact ⟨j, by rw [List.length_take]; omega, by rw [List.getElem_take]⟩)
          have hm := rDesc_mem hJ.out.desc M[j] (List.getElem_mem hj)
          have J1 := Lib.hid (hJ.out.raise hj c1)
          have hle : (M.eraseIdx j).length = M.length - 1 := by rw [List.length_eraseIdx, if_pos hj]
          have hL1 := Lib.hid hle
          have hne : Value.ownBlock (.slice (some ⟨g, ofs, none⟩) M.length c2) ≠ some w2.heap.size := fun e => by have := (HA2.out _ _ e).2; omega
          obtain ⟨mn, hmn⟩ : ∃ mn, mn = min o.1 M[j].1 := ⟨_, rfl⟩
          obtain ⟨mx, hmx⟩ : ∃ mx, mx = max o.2 M[j].2 := ⟨_, rfl⟩
          rw [← hmn, ← hmx] at J1
          have HN := Lib.hid hmn
          have HM := Lib.hid hmx
          clear hJ hc hle hmn hmx
          generalize M[j].1 = u at *
          generalize M[j].2 = v at *
          go_wp2_with fail
          go_region
          go_upto_region 14 with fail
          go_cut [7] (fun s7 wx => s7 = .int .i64 j ∧ wx.ownsRow w1.heap.size 34 2 (.slice (some ⟨g, ofs, none⟩) M.length c2) M.length (rCells M) ∧
            Blk wx w2.heap.size 34 #[.int .i64 mn, .int .i64 mx] ∧ Below w.heap.size w wx)
          case first =>
            by_cases m1 : o.1 ≤ u
            all_goals
              by_cases m2 : v ≤ o.2
              all_goals
                go_region
                go_wp2_with fail
                go_meet
                refine ⟨rfl, own_drew (own_drew ((own_far (own_far hown hne _) hne _))), ?_, Below.drew (Below.drew (((bb.setCell (by simp; omega) _).setCell (by simp; omega) _)))⟩
                first | rw [show mn = o.1 from by rw [HN.out]; omega] | rw [show mn = u from by rw [HN.out]; omega]
                first | rw [show mx = o.2 from by rw [HM.out]; omega] | rw [show mx = v from by rw [HM.out]; omega]
                exact Blk.drew (Blk.drew (((bO.set_ 0 _).set_ 1 _)))
          case rest =>
            obtain ⟨rfl, hownX, bX, bbX⟩ := hcut
            go_wp2_with fail
            refine (delete_any (base := w1.heap.size) (l := M) (k := j) hownX hj (by omega)).mono ?_
            rintro e w5 ⟨rfl, hown5, hg5⟩
            go_wp2
            go_roundg (M.eraseIdx j).length
            case measure => rw [hL1.out]; omega
            case rel =>
              refine ⟨M.eraseIdx j, j, (mn, mx), rfl, by rw [hL1.out], rfl, by rw [hL1.out]; omega, by rw [hL1.out]; exact hown5, ?_, ?_, J1⟩
              · exact bX.grown hg5 (fun e => hne e.symm)
              · exact bbX.grown hg5 bbX.size (fun q hq => by have := (hown.lt q hq).1; omega)
        · have hm0 := rDesc_mem hJ.out.desc M[j] (List.getElem_mem hj)
          have t1 : ((k : Int) - 1).toNat = j := by omega
          have t2 : (0 : Int) ≤ (k : Int) - 1 := by omega
          have t3 : (k : Int) - 1 < (M.length : Int) := by omega
          have t4 : ((0 : Int) < (k : Int)) = True := eq_true (by omega)
          have d1 : (M[j].1 ≤ o.2 + 1) = False := eq_false c1
          have c0 : ∀ j (hj : j < M.length), k = j + 1 → o.2 + 1 < M[j].1 := by
            intro i hi e
            obtain rfl : i = j := by omega
            omega
          have C0 := Lib.hid c0
          clear c0
          have hk1 : 1 ≤ k := hk
          clear hjk
          by_cases hkl : k < M.length
          · have hj0 := hj
            replace hj := hkl
            have k3 := (hc k hkl).1
            have k4 := (hc k hkl).2
            have a3 := addr_add g ofs (k * 2)
            have t5 : ((k : Int) < (M.length : Int)) = True := eq_true (by omega)
            by_cases q2 : o.1 - 1 ≤ M[k].2
            · have d2 : (o.1 - 1 ≤ M[k].2) = True := eq_true q2
              have hm := rDesc_mem hJ.out.desc M[k] (List.getElem_mem hj)
              have J1 := Lib.hid (hJ.out.lower hkl C0.out q2)
              have hle : (M.eraseIdx k).length = M.length - 1 := by rw [List.length_eraseIdx, if_pos hj]
              have hL1 := Lib.hid hle
              have hne : Value.ownBlock (.slice (some ⟨g, ofs, none⟩) M.length c2) ≠ some w2.heap.size := fun e => by have := (HA2.out _ _ e).2; omega
              obtain ⟨mn, hmn⟩ : ∃ mn, mn = min o.1 M[k].1 := ⟨_, rfl⟩
              obtain ⟨mx, hmx⟩ : ∃ mx, mx = max o.2 M[k].2 := ⟨_, rfl⟩
              rw [← hmn, ← hmx] at J1
              have HN := Lib.hid hmn
              have HM := Lib.hid hmx
              clear hJ hc hle hmn hmx
              generalize M[j].1 = u0 at *
              generalize M[j].2 = v0 at *
              generalize M[k].1 = u at *
              generalize M[k].2 = v at *
              go_wp2_with fail
              go_region
              go_wp2_with fail
              go_region
              clear t1 t2 t3 t4 t5 d1 d2
              go_upto_region 14 with fail
              go_cut [7] (fun s7 wx => s7 = .int .i64 k ∧ wx.ownsRow w1.heap.size 34 2 (.slice (some ⟨g, ofs, none⟩) M.length c2) M.length (rCells M) ∧
                Blk wx w2.heap.size 34 #[.int .i64 mn, .int .i64 mx] ∧ Below w.heap.size w wx)
              case first =>
                by_cases m1 : o.1 ≤ u
                all_goals
                  by_cases m2 : v ≤ o.2
                  all_goals
                    go_region
                    go_wp2_with fail
                    go_meet
                    refine ⟨rfl, own_drew (own_drew (own_drew ((own_far (own_far hown hne _) hne _)))), ?_, Below.drew (Below.drew (Below.drew (((bb.setCell (by simp; omega) _).setCell (by simp; omega) _))))⟩
                    first | rw [show mn = o.1 from by rw [HN.out]; omega] | rw [show mn = u from by rw [HN.out]; omega]
                    first | rw [show mx = o.2 from by rw [HM.out]; omega] | rw [show mx = v from by rw [HM.out]; omega]
                    exact Blk.drew (Blk.drew (Blk.drew (((bO.set_ 0 _).set_ 1 _))))
              case rest =>
                obtain ⟨rfl, hownX, bX, bbX⟩ := hcut
                go_wp2_with fail
                refine (delete_any (base := w1.heap.size) (l := M) (k := k) hownX hj (by omega)).mono ?_
                rintro e w5 ⟨rfl, hown5, hg5⟩
                go_wp2
                go_roundg (M.eraseIdx k).length
                case measure => rw [hL1.out]; omega
                case rel =>
                  refine ⟨M.eraseIdx k, k, (mn, mx), rfl, by rw [hL1.out], rfl, by rw [hL1.out]; omega, by rw [hL1.out]; exact hown5, ?_, ?_, J1⟩
                  · exact bX.grown hg5 (fun e => hne e.symm)
                  · exact bbX.grown hg5 bbX.size (fun q hq => by have := (hown.lt q hq).1; omega)
            · have d2 : (o.1 - 1 ≤ M[k].2) = False := eq_false q2
              have hm := rDesc_mem hJ.out.desc M[k] (List.getElem_mem hkl)
              have CC : Hid (∀ hk : k < M.length, M[k].2 < o.1 - 1) := Lib.hid (fun _ => by omega)
              obtain ⟨P, hP⟩ : ∃ P, P = M.take k ++ o :: M.drop k := ⟨_, rfl⟩
              have hF := HF.out
              rw [hJ.out.done (C0.out) (CC.out), ← hP] at hF
              have HF2 := Lib.hid hF
              have hfl : P.length = M.length + 1 := by rw [hP]; simp; omega
              have HFL := Lib.hid hfl
              have HP := Lib.hid hP
              clear hF hfl HF hP
              clear hJ hc
              generalize M[j].1 = u0 at *
              generalize M[j].2 = v0 at *
              generalize M[k].1 = u at *
              generalize M[k].2 = v at *
              go_wp2_with fail
              go_region
              go_wp2_with fail
              go_region
              go_wp2_with fail
              have hne : some wr.heap.size ≠ Value.ownBlock (.slice (some ⟨g, ofs, none⟩) M.length c2) := fun e => by have := (HA2.out _ _ e.symm).2; omega
              refine (insert_any (base := w1.heap.size) (l := M) (x := o) (k := k) (own_alloc (own_drew (own_drew (hown))) _) (by simp; omega) hkM (by omega) (Blk.new wr.drew.drew 34 #[.int .i64 o.1, .int .i64 o.2] (g := wr.heap.size) rfl) hne).mono ?_
              rintro e w5 ⟨A5, c5, rfl, hown5, hg5⟩
              rw [← HP.out, HFL.out] at hown5 ⊢
              have ho5 := own_split hown5 (by omega)
              obtain ⟨g5, cur5, rfl, hb5, hh5, hnc5, hcm5, hcs5, ht5⟩ := ho5
              unfold maxLen at hcm5
              have hF := HF2.out
              by_cases h16 : M.length + 1 ≤ 16
              · rw [List.take_of_length_le (by rw [HFL.out]; exact h16)] at hF
                subst hF
                clear hh5 hcs5 ht5 hne HF2
                have bz := bb.size
                go_wp2_with fail
                try rw [Exit.noGoto_ret]
                go_ret
                exact ⟨some ⟨g5, 0, none⟩, c5, by rw [HFL.out]; rfl, by rw [HFL.out]; exact own_more hown5 (by omega), Below.grown (Below.alloc (Below.drew (Below.drew bb)) (by first | omega | (simp; omega)) _) hg5 (by simp; omega) (fun q hq => by have := (HA2.out _ _ hq).1; omega)⟩
              · have hfl : F.length = 16 := by rw [hF, List.length_take, HFL.out]; omega
                have hown6 := own_take (m := 16) hown5 (by omega) (by omega)
                rw [rCells_take, ← hF] at hown6
                have HF3 := Lib.hid hfl
                clear hh5 hcs5 ht5 hne HF2 hfl hF
                have bz := bb.size
                go_wp2_with fail
                try rw [Exit.noGoto_ret]
                go_ret
                exact ⟨some ⟨g5, 0, none⟩, c5, by rw [HF3.out]; rfl, by rw [HF3.out]; exact own_more hown6 (by omega), Below.grown (Below.alloc (Below.drew (Below.drew bb)) (by first | omega | (simp; omega)) _) hg5 (by simp; omega) (fun q hq => by have := (HA2.out _ _ hq).1; omega)⟩
          · have t5 : ((k : Int) < (M.length : Int)) = False := eq_false (by omega)
            have CC : Hid (∀ hk : k < M.length, M[k].2 < o.1 - 1) := Lib.hid (fun h => absurd h hkl)
            obtain ⟨P, hP⟩ : ∃ P, P = M.take k ++ o :: M.drop k := ⟨_, rfl⟩
            have hF := HF.out
            rw [hJ.out.done (C0.out) (CC.out), ← hP] at hF
            have HF2 := Lib.hid hF
            have hfl : P.length = M.length + 1 := by rw [hP]; simp; omega
            have HFL := Lib.hid hfl
            have HP := Lib.hid hP
            clear hF hfl HF hP
            clear hJ hc
            generalize M[j].1 = u0 at *
            generalize M[j].2 = v0 at *
            go_wp2_with fail
            go_region
            go_wp2_with fail
            go_region
            go_wp2_with fail
            have hne : some wr.heap.size ≠ Value.ownBlock (.slice (some ⟨g, ofs, none⟩) M.length c2) := fun e => by have := (HA2.out _ _ e.symm).2; omega
            refine (insert_any (base := w1.heap.size) (l := M) (x := o) (k := k) (own_alloc (own_drew (own_drew (hown))) _) (by simp; omega) hkM (by omega) (Blk.new wr.drew.drew 34 #[.int .i64 o.1, .int .i64 o.2] (g := wr.heap.size) rfl) hne).mono ?_
            rintro e w5 ⟨A5, c5, rfl, hown5, hg5⟩
            rw [← HP.out, HFL.out] at hown5 ⊢
            have ho5 := own_split hown5 (by omega)
            obtain ⟨g5, cur5, rfl, hb5, hh5, hnc5, hcm5, hcs5, ht5⟩ := ho5
            unfold maxLen at hcm5
            have hF := HF2.out
            by_cases h16 : M.length + 1 ≤ 16
            · rw [List.take_of_length_le (by rw [HFL.out]; exact h16)] at hF
              subst hF
              clear hh5 hcs5 ht5 hne HF2
              have bz := bb.size
              go_wp2_with fail
              try rw [Exit.noGoto_ret]
              go_ret
              exact ⟨some ⟨g5, 0, none⟩, c5, by rw [HFL.out]; rfl, by rw [HFL.out]; exact own_more hown5 (by omega), Below.grown (Below.alloc (Below.drew (Below.drew bb)) (by first | omega | (simp; omega)) _) hg5 (by simp; omega) (fun q hq => by have := (HA2.out _ _ hq).1; omega)⟩
            · have hfl : F.length = 16 := by rw [hF, List.length_take, HFL.out]; omega
              have hown6 := own_take (m := 16) hown5 (by omega) (by omega)
              rw [rCells_take, ← hF] at hown6
              have HF3 := Lib.hid hfl
              clear hh5 hcs5 ht5 hne HF2 hfl hF
              have bz := bb.size
              go_wp2_with fail
              try rw [Exit.noGoto_ret]
              go_ret
              exact ⟨some ⟨g5, 0, none⟩, c5, by rw [HF3.out]; rfl, by rw [HF3.out]; exact own_more hown6 (by omega), Below.grown (Below.alloc (Below.drew (Below.drew bb)) (by first | omega | (simp; omega)) _) hg5 (by simp; omega) (fun q hq => by have := (HA2.out _ _ hq).1; omega)⟩
      · have t4 : ((0 : Int) < (k : Int)) = False := eq_false (by omega)
        have C0 : Hid (∀ j (hj : j < M.length), k = j + 1 → o.2 + 1 < M[j].1) := Lib.hid (fun i hi e => absurd e (by omega))
        by_cases hkl : k < M.length
        · have hj := hkl
          obtain ⟨g, ofs, rfl, hgu, hc⟩ := slr_cell (Sl.of_own hown) (by omega)
          have k3 := (hc k hkl).1
          have k4 := (hc k hkl).2
          have a3 := addr_add g ofs (k * 2)
          have t5 : ((k : Int) < (M.length : Int)) = True := eq_true (by omega)
          by_cases q2 : o.1 - 1 ≤ M[k].2
          · have d2 : (o.1 - 1 ≤ M[k].2) = True := eq_true q2
            have hm := rDesc_mem hJ.out.desc M[k] (List.getElem_mem hj)
            have J1 := Lib.hid (hJ.out.lower hkl C0.out q2)
            have hle : (M.eraseIdx k).length = M.length - 1 := by rw [List.length_eraseIdx, if_pos hj]
            have hL1 := Lib.hid hle
            have hne : Value.ownBlock (.slice (some ⟨g, ofs, none⟩) M.length c2) ≠ some w2.heap.size := fun e => by have := (HA2.out _ _ e).2; omega
            obtain ⟨mn, hmn⟩ : ∃ mn, mn = min o.1 M[k].1 := ⟨_, rfl⟩
            obtain ⟨mx, hmx⟩ : ∃ mx, mx = max o.2 M[k].2 := ⟨_, rfl⟩
            rw [← hmn, ← hmx] at J1
            have HN := Lib.hid hmn
            have HM := Lib.hid hmx
            clear hJ hc hle hmn hmx
            generalize M[k].1 = u at *
            generalize M[k].2 = v at *
            go_wp2_with fail
            go_region
            go_wp2_with fail
            go_region
            clear t4 t5 d2
            go_upto_region 14 with fail
            go_cut [7] (fun s7 wx => s7 = .int .i64 k ∧ wx.ownsRow w1.heap.size 34 2 (.slice (some ⟨g, ofs, none⟩) M.length c2) M.length (rCells M) ∧
              Blk wx w2.heap.size 34 #[.int .i64 mn, .int .i64 mx] ∧ Below w.heap.size w wx)
            case first =>
              by_cases m1 : o.1 ≤ u
              all_goals
                by_cases m2 : v ≤ o.2
                all_goals
                  go_region
                  go_wp2_with fail
                  go_meet
                  refine ⟨rfl, own_drew (own_drew (own_drew ((own_far (own_far hown hne _) hne _)))), ?_, Below.drew (Below.drew (Below.drew (((bb.setCell (by simp; omega) _).setCell (by simp; omega) _))))⟩
                  first | rw [show mn = o.1 from by rw [HN.out]; omega] | rw [show mn = u from by rw [HN.out]; omega]
                  first | rw [show mx = o.2 from by rw [HM.out]; omega] | rw [show mx = v from by rw [HM.out]; omega]
                  exact Blk.drew (Blk.drew (Blk.drew (((bO.set_ 0 _).set_ 1 _))))
            case rest =>
              obtain ⟨rfl, hownX, bX, bbX⟩ := hcut
              go_wp2_with fail
              refine (delete_any (base := w1.heap.size) (l := M) (k := k) hownX hj (by omega)).mono ?_
              rintro e w5 ⟨rfl, hown5, hg5⟩
              go_wp2
              go_roundg (M.eraseIdx k).length
              case measure => rw [hL1.out]; omega
              case rel =>
                refine ⟨M.eraseIdx k, k, (mn, mx), rfl, by rw [hL1.out], rfl, by rw [hL1.out]; omega, by rw [hL1.out]; exact hown5, ?_, ?_, J1⟩
                · exact bX.grown hg5 (fun e => hne e.symm)
                · exact bbX.grown hg5 bbX.size (fun q hq => by have := (hown.lt q hq).1; omega)
          · have d2 : (o.1 - 1 ≤ M[k].2) = False := eq_false q2
            have hm := rDesc_mem hJ.out.desc M[k] (List.getElem_mem hkl)
            have CC : Hid (∀ hk : k < M.length, M[k].2 < o.1 - 1) := Lib.hid (fun _ => by omega)
            obtain ⟨P, hP⟩ : ∃ P, P = M.take k ++ o :: M.drop k := ⟨_, rfl⟩
            have hF := HF.out
            rw [hJ.out.done (C0.out) (CC.out), ← hP] at hF
            have HF2 := Lib.hid hF
            have hfl : P.length = M.length + 1 := by rw [hP]; simp; omega
            have HFL := Lib.hid hfl
            have HP := Lib.hid hP
            clear hF hfl HF hP
            clear hJ hc
            generalize M[k].1 = u at *
            generalize M[k].2 = v at *
            go_wp2_with fail
            go_region
            go_wp2_with fail
            go_region
            go_wp2_with fail
            have hne : some wr.heap.size ≠ Value.ownBlock (.slice (some ⟨g, ofs, none⟩) M.length c2) := fun e => by have := (HA2.out _ _ e.symm).2; omega
            refine (insert_any (base := w1.heap.size) (l := M) (x := o) (k := k) (own_alloc (own_drew (own_drew (hown))) _) (by simp; omega) hkM (by omega) (Blk.new wr.drew.drew 34 #[.int .i64 o.1, .int .i64 o.2] (g := wr.heap.size) rfl) hne).mono ?_
            rintro e w5 ⟨A5, c5, rfl, hown5, hg5⟩
            rw [← HP.out, HFL.out] at hown5 ⊢
            have ho5 := own_split hown5 (by omega)
            obtain ⟨g5, cur5, rfl, hb5, hh5, hnc5, hcm5, hcs5, ht5⟩ := ho5
            unfold maxLen at hcm5
            have hF := HF2.out
            by_cases h16 : M.length + 1 ≤ 16
            · rw [List.take_of_length_le (by rw [HFL.out]; exact h16)] at hF
              subst hF
              clear hh5 hcs5 ht5 hne HF2
              have bz := bb.size
              go_wp2_with fail
              try rw [Exit.noGoto_ret]
              go_ret
              exact ⟨some ⟨g5, 0, none⟩, c5, by rw [HFL.out]; rfl, by rw [HFL.out]; exact own_more hown5 (by omega), Below.grown (Below.alloc (Below.drew (Below.drew bb)) (by first | omega | (simp; omega)) _) hg5 (by simp; omega) (fun q hq => by have := (HA2.out _ _ hq).1; omega)⟩
            · have hfl : F.length = 16 := by rw [hF, List.length_take, HFL.out]; omega
              have hown6 := own_take (m := 16) hown5 (by omega) (by omega)
              rw [rCells_take, ← hF] at hown6
              have HF3 := Lib.hid hfl
              clear hh5 hcs5 ht5 hne HF2 hfl hF
              have bz := bb.size
              go_wp2_with fail
              try rw [Exit.noGoto_ret]
              go_ret
              exact ⟨some ⟨g5, 0, none⟩, c5, by rw [HF3.out]; rfl, by rw [HF3.out]; exact own_more hown6 (by omega), Below.grown (Below.alloc (Below.drew (Below.drew bb)) (by first | omega | (simp; omega)) _) hg5 (by simp; omega) (fun q hq => by have := (HA2.out _ _ hq).1; omega)⟩
        · have t5 : ((k : Int) < (M.length : Int)) = False := eq_false (by omega)
          have CC : Hid (∀ hk : k < M.length, M[k].2 < o.1 - 1) := Lib.hid (fun h => absurd h hkl)
          obtain ⟨P, hP⟩ : ∃ P, P = M.take k ++ o :: M.drop k := ⟨_, rfl⟩
          have hF := HF.out
          rw [hJ.out.done (C0.out) (CC.out), ← hP] at hF
          have HF2 := Lib.hid hF
          have hfl : P.length = M.length + 1 := by rw [hP]; simp; omega
          have HFL := Lib.hid hfl
          have HP := Lib.hid hP
          clear hF hfl HF hP
          clear hJ 
          go_wp2_with fail
          have hne : some wr.heap.size ≠ Value.ownBlock (.slice A2 M.length c2) := fun e => by have := (HA2.out _ _ e.symm).2; omega
          refine (insert_any (base := w1.heap.size) (l := M) (x := o) (k := k) (own_alloc (hown) _) (by simp; omega) hkM (by omega) (Blk.new wr 34 #[.int .i64 o.1, .int .i64 o.2] (g := wr.heap.size) rfl) hne).mono ?_
          rintro e w5 ⟨A5, c5, rfl, hown5, hg5⟩
          rw [← HP.out, HFL.out] at hown5 ⊢
          have ho5 := own_split hown5 (by omega)
          obtain ⟨g5, cur5, rfl, hb5, hh5, hnc5, hcm5, hcs5, ht5⟩ := ho5
          unfold maxLen at hcm5
          have hF := HF2.out
          by_cases h16 : M.length + 1 ≤ 16
          · rw [List.take_of_length_le (by rw [HFL.out]; exact h16)] at hF
            subst hF
            clear hh5 hcs5 ht5 hne HF2
            have bz := bb.size
            go_wp2_with fail
            try rw [Exit.noGoto_ret]
            go_ret
            exact ⟨some ⟨g5, 0, none⟩, c5, by rw [HFL.out]; rfl, by rw [HFL.out]; exact own_more hown5 (by omega), Below.grown (Below.alloc bb (by first | omega | (simp; omega)) _) hg5 (by simp; omega) (fun q hq => by have := (HA2.out _ _ hq).1; omega)⟩
          · exact absurd h16 (by omega)
end Go.Proofs.Ytgckedeaoglehaa
