/- The document's Cut. -/
import Derived.Test.YtfeeincglijmjaaZB14
import Derived.Test.YtfeeincglijmjaaZB3
namespace Go.Proofs.Ytfeeincglijmjaa
open Go.RowKit
set_option linter.unusedVariables false
set_option linter.unusedSimpArgs false
attribute [local go_sem ↓] Go.wp_at_zero Go.wp_at_succ

set_option maxHeartbeats 8000000 in
set_option maxRecDepth 100000 in
theorem rcut_any {lo up : Nat} {A : Option Addr} {n c : Nat} {l : List UInt8} {z : Int} {w : World} (hr : Sl w lo up 1 A n c (byteCells l)) (hup : up ≤ w.heap.size) (hn : n ≤ 1000000) :
    Calls Try.prog 72 #[.slice A n c, .int .i64 z] w (RetPs w (cParts l z)) := by
  obtain ⟨i0, hi0, hz0, hz1, hz2⟩ := info_parts info23
  obtain ⟨j0, hj0, jz0, jz1, jz2⟩ := info_parts info5
  have hl0 : n = l.length := by have := hr.len; rw [byteCells_length] at this; omega
  subst hl0
  have HR := Lib.hid hr
  have hsz := cSz_bnd z
  obtain ⟨s, hs⟩ : ∃ s, s = cSz z := ⟨_, rfl⟩
  obtain ⟨m, hm⟩ : ∃ m, m = cMany l.length s := ⟨_, rfl⟩
  have hdiv : ((l.length : Int) + (s : Int) - 1) / (s : Int) = ((l.length + s - 1) / s : Nat) := by
    rw [show (l.length : Int) + (s : Int) - 1 = ((l.length + s - 1 : Nat) : Int) from by omega]
    rfl
  have hmm := hm
  unfold cMany at hmm
  obtain ⟨q, hq⟩ : ∃ q, q = (l.length + s - 1) / s := ⟨_, rfl⟩
  rw [← hq] at hdiv hmm
  have Hcp : Hid (cParts l z = (List.range m).map (cPart l s m)) := Lib.hid (by unfold cParts; rw [← hs, ← hm])
  generalize cParts l z = PS at *
  rw [← hs] at hsz
  have hmb : ∀ i, 1 ≤ m ∧ m ≤ 1000000 ∧ (i < m → i * s ≤ l.length) := fun i => by rw [hm]; exact cMany_bnd hsz.1 hn
  have Hmb := Lib.hid hmb
  have hm1 := (hmb 0).1
  have hm2 := (hmb 0).2.1
  have Hs : Hid ((s : Int) = min (max z 20) 2048 - 8) := Lib.hid (by rw [hs]; unfold cSz; omega)
  have HD := Lib.hid hdiv
  have Hmm : Hid ((q < 1 ∧ m = 1) ∨ (1 ≤ q ∧ m = q)) := Lib.hid (by omega)
  have hs1 : (12 : Int) ≤ s := by omega
  have hs2 : (s : Int) ≤ 2040 := by omega
  have hn' : (l.length : Int) ≤ 1000000 := by omega
  have hn0 : (0 : Int) ≤ l.length := by omega
  clear hr hdiv hmm hq hm hs hmb
  go_enter Try.func72, Try.ntmps72
  go_upto_region 1 with fail
  go_cut [5] (fun s1 wx => s1 = .int .i64 s ∧ w = wx)
  case first =>
    have hs3 := Hs.out
    rcases Int.lt_or_le z 20 with h1 | h1
    · have hs4 : (s : Int) = 12 := by omega
      clear hs3
      go_wp2_with fail
      go_meet
      exact ⟨by rw [hs4], rfl⟩
    · rcases Int.lt_or_le 2048 z with h2 | h2
      · have hs4 : (s : Int) = 2040 := by omega
        clear hs3
        go_wp2_with fail
        go_meet
        exact ⟨by rw [hs4], rfl⟩
      · have hs4 : (s : Int) = z - 8 := by omega
        clear hs3
        go_wp2_with fail
        go_meet
        exact ⟨by rw [hs4], rfl⟩
  case rest =>
    obtain ⟨rfl, rfl⟩ := hcut
    clear Hs
    go_upto_region 2 with fail
    go_cut [6] (fun s5 wx => s5 = .int .i64 m ∧ w = wx)
    case first =>
      have hd := HD.out
      rcases Hmm.out with ⟨h1, h2⟩ | ⟨h1, h2⟩
      · have h3 : (q : Int) < 1 := by omega
        have h4 : (m : Int) = 1 := by omega
        clear h2
        go_wp2_with fail
        go_meet
        exact ⟨by rw [h4], rfl⟩
      · have h3 : 1 ≤ (q : Int) := by omega
        have h4 : (m : Int) = q := by omega
        clear h2
        go_wp2_with fail
        go_meet
        exact ⟨by rw [h4], rfl⟩
    case rest =>
      obtain ⟨rfl, rfl⟩ := hcut
      clear HD Hmm
      have hm3 : (m : Int) ≤ 1000000 := by omega
      go_wp2_with fail
      go_loopg [7, 8] m (fun gh s4 s22 wr => ∃ (i : Nat) (A2 : Option Addr) (c2 : Nat) (vs : List Value), gh = m - i ∧ i ≤ m ∧ s22 = .int .i64 i ∧ s4 = .slice A2 i c2 ∧ wr.ownsRow w.heap.size 23 1 (.slice A2 i c2) i vs ∧ Hid (Bs wr w.heap.size vs ((List.range i).map (cPart l s m))) ∧ Below w.heap.size w wr)
      case atStart => exact ⟨0, none, 0, [], rfl, Nat.zero_le _, rfl, rfl, World.ownsRow_nil _ _ _ _, Lib.hid (Bs.nil _ _), Below.refl _ _⟩
      case round =>
        obtain ⟨i, A2, c2, vs, hgh, him, rfl, rfl, hown, hbs, bb⟩ := hrel
        have HG := Lib.hid hgh
        clear hgh
        have zz := bb.size
        by_cases h : i < m
        · have hP := (Hmb.out i).2.2 h
          obtain ⟨P, hPe⟩ : ∃ P, P = i * s := ⟨_, rfl⟩
          rw [← hPe] at hP
          have hPI : (i : Int) * (s : Int) = P := by rw [hPe]; simp
          have hPI2 : ((i : Int) + 1) * (s : Int) = P + s := by rw [Int.add_mul, hPI]; omega
          have HPe := Lib.hid hPe
          clear hPe
          have hP2 : (P : Int) ≤ l.length := by omega
          have w1 : IntKind.i64.wrap ((i : Int) * (s : Int)) = P := by rw [hPI]; exact IntWalk.i64_in _ (by omega)
          have w2 : IntKind.i64.wrap (((i : Int) + 1) * (s : Int)) = P + s := by rw [hPI2]; exact IntWalk.i64_in _ (by omega)
          clear hPI hPI2
          have hi3 : (i : Int) < m := by omega
          have hv1 : vSize (i : Int) ≠ 0 := vSize_ne (by omega) (by omega)
          have hv2 : vSize (m : Int) ≠ 0 := vSize_ne (by omega) (by omega)
          have HB1 := Lib.hid (rbytes_any (w := wr) hv1)
          have HB2 := Lib.hid (fun W => rbytes_any (w := W) hv2)
          clear hv1 hv2
          obtain ⟨V, hV⟩ : ∃ V, V = vCat [(i : Int), (m : Int)] := ⟨_, rfl⟩
          have hVl : V.length ≤ 16 := by rw [hV]; exact vCat_le _
          have HV := Lib.hid hV
          have hVc : V = vBytes (i : Int) ++ vBytes (m : Int) := by rw [hV]; simp [vCat]
          have HVc := Lib.hid hVc
          have HVl := Lib.hid (show (vBytes (i : Int)).length + (vBytes (m : Int)).length = V.length by rw [hVc, List.length_append])
          clear hV hVc
          obtain ⟨k, hk⟩ : ∃ k, k = min s (l.length - P) := ⟨_, rfl⟩
          obtain ⟨A3, hcut3, hs3⟩ := cut_lh Try.underlying23 hj0 jz1 HR.out P k (P : Int) (((P + k : Nat)) : Int) rfl (by omega) (by omega)
          rw [Nat.mul_one, Nat.mul_one, byteCells_drop, byteCells_take] at hs3
          have hkk : (l.drop P).take k = (l.drop P).take s := by
            rw [hk]
            rcases Nat.le_total s (l.length - P) with h | h
            · rw [Nat.min_eq_left h]
            · rw [Nat.min_eq_right h, List.take_of_length_le (by rw [List.length_drop]; exact Nat.le_refl _), List.take_of_length_le (by rw [List.length_drop]; exact h)]
          rw [hkk] at hs3
          have HS3 := Lib.hid hs3
          have Hcut3 := Lib.hid hcut3
          have hk2 : k ≤ 2040 := by omega
          clear hs3 hcut3 hkk
          have Hk := Lib.hid hk
          clear hk
          go_wp2_with fail
          refine HB1.out.mono ?_
          rintro e w3 ⟨A3a, c3a, rfl, own3a, hb3a⟩
          have hz3a := hb3a.size
          go_wp2_with fail
          refine (HB2.out _).mono ?_
          rintro e w3b ⟨A3b, c3b, rfl, own3b, hb3b⟩
          have own3 := own_below own3a hb3b (Nat.le_refl _)
          have hb3 := hb3a.trans (hb3b.mono hz3a)
          have hz3b := hb3.size
          have hge3 := own3.lt
          have T3b := Sl.of_own own3b
          clear own3a own3b hb3a hb3b HB1 HB2
          go_upto_region 8 with (at_builtin; refine wpList_append_sl _ rfl (.tmp 28) (.tmp 30) 23 rfl wr.heap.size 5 j0 _ 1 1 Try.underlying23 hj0 jz0 jz1 jz2 rfl (by omega) (.slice A3a (vBytes (i : Int)).length c3a) (vBytes (i : Int)).length (byteCells (vBytes (i : Int))) rfl own3 _ _ A3b (vBytes (m : Int)).length c3b (byteCells (vBytes (m : Int))) rfl T3b (byteCells_one _) V.length HVl.out (byteCells V) (by rw [HVc.out, byteCells_append]) (by unfold maxLen; omega) (by omega) hz3b ?_; intro A4 c4 w3 own4' hg4)
          have hb4' : Below wr.heap.size wr w3 := hb3.grown hg4 hz3b (fun k e => (hge3 k e).1)
          clear own3 hb3 hge3 T3b hg4
          have zz3 := hb4'.size
          have hge : ∀ k, Value.ownBlock (.slice A4 V.length c4) = some k → wr.heap.size ≤ k := fun k hk => (own4'.lt k hk).1
          have sl3 := HS3.out.below (bb.trans (hb4'.mono zz)) hup
          rcases Nat.lt_or_ge l.length (P + s) with hc | hc
          · have hcut3 := Hcut3.out
            rw [show ((P + k : Nat) : Int) = (l.length : Int) from by have := Hk.out; omega] at hcut3
            have hdm : ((l.length : Int) < (P : Int) + (s : Int)) = True := eq_true (by omega)
            have hdm2 : decide ((l.length : Int) < (P : Int) + (s : Int)) = true := by simp; omega
            clear Hk hc hP2 hP
            go_wp2_with (first
              | (at_builtin; refine wpList_append_sl _ rfl (.tmp 33) (.tmp 45) 23 rfl w.heap.size 5 j0 _ 1 1 Try.underlying23 hj0 jz0 jz1 jz2 rfl (by omega) (.slice A4 V.length c4) V.length (byteCells V) rfl (own_more own4' zz) lo up A3 k (c - P) (byteCells ((l.drop P).take s)) rfl sl3 (byteCells_one _) (V.length + k) rfl _ rfl (by unfold maxLen; omega) (by omega) (by omega) ?_; intro A5 c5 w5 hown5 hg5; have b5 := hb4'.grown hg5 zz3 hge; have own2 := own_below hown b5 (Nat.le_refl _); have zz5 := b5.size; have Hb5 := Lib.hid b5; have Hown5 := Lib.hid hown5; clear hg5 b5 hown5)
              | (at_builtin; refine wpList_append_sl _ rfl (.tmp 32) (.tmp 47) 29 rfl w.heap.size 23 i0 _ 1 24 Try.underlying29 hi0 hz0 hz1 hz2 rfl (by omega) (.slice A2 i c2) i vs rfl (own_alloc own2 _) w5.heap.size (w5.heap.size + 1) (some ⟨w5.heap.size, 0, none⟩) 1 1 [.slice A5 (V.length + k) c5] rfl (Sl.new w5 23 #[.slice A5 (V.length + k) c5] 1 1 1 _ rfl (Nat.le_refl _) rfl rfl) (by intro u hu; simp at hu; subst hu; rfl) (i + 1) rfl _ rfl (by unfold maxLen; omega) (by omega) (by simp; omega) ?_; intro A6 c6 w6 hown6 hg6; have Hown6 := Lib.hid hown6; have Hg6 := Lib.hid hg6; clear hown6 hg6))
            go_roundg (m - (i + 1))
            case measure => have := HG.out; omega
            case rel =>
              refine ⟨i + 1, A6, c6, _, rfl, by omega, by go_num, rfl, Hown6.out, Lib.hid ?_, ?_⟩
              · rw [List.range_succ, List.map_append, List.map_cons, List.map_nil]
                have hpart : cPart l s m i = V ++ (l.drop P).take s := by rw [HV.out, HPe.out]; rfl
                rw [hpart]
                have e1 := Hown5.out
                rw [← byteCells_append] at e1
                have al := (Below.refl w5.heap.size w5).alloc (Nat.le_refl _) (.cells #[.slice A5 (V.length + k) c5] 23)
                exact ((((hbs.out.below Hb5.out (Nat.le_refl _)).below al (Nat.le_refl _))).snoc (by have := e1.1; rw [byteCells_length] at this; omega) (own_below e1 al (Nat.le_refl _))).apart (own_alloc own2 _) (by decide) Hg6.out
              · exact ((bb.trans (Hb5.out.mono zz)).alloc (by omega) _).grown Hg6.out (by simp; omega) (fun k hk => ((own_alloc own2 (.cells #[.slice A5 (V.length + k) c5] 23)).lt k hk).1)
          · have hcut3 := Hcut3.out
            rw [show ((P + k : Nat) : Int) = (P : Int) + (s : Int) from by have := Hk.out; omega] at hcut3
            have hdm : ((l.length : Int) < (P : Int) + (s : Int)) = False := eq_false (by omega)
            have hdm2 : decide ((l.length : Int) < (P : Int) + (s : Int)) = false := by simp; omega
            clear Hk hc hP2 hP
            go_wp2_with (first
              | (at_builtin; refine wpList_append_sl _ rfl (.tmp 33) (.tmp 45) 23 rfl w.heap.size 5 j0 _ 1 1 Try.underlying23 hj0 jz0 jz1 jz2 rfl (by omega) (.slice A4 V.length c4) V.length (byteCells V) rfl (own_more own4' zz) lo up A3 k (c - P) (byteCells ((l.drop P).take s)) rfl sl3 (byteCells_one _) (V.length + k) rfl _ rfl (by unfold maxLen; omega) (by omega) (by omega) ?_; intro A5 c5 w5 hown5 hg5; have b5 := hb4'.grown hg5 zz3 hge; have own2 := own_below hown b5 (Nat.le_refl _); have zz5 := b5.size; have Hb5 := Lib.hid b5; have Hown5 := Lib.hid hown5; clear hg5 b5 hown5)
              | (at_builtin; refine wpList_append_sl _ rfl (.tmp 32) (.tmp 47) 29 rfl w.heap.size 23 i0 _ 1 24 Try.underlying29 hi0 hz0 hz1 hz2 rfl (by omega) (.slice A2 i c2) i vs rfl (own_alloc own2 _) w5.heap.size (w5.heap.size + 1) (some ⟨w5.heap.size, 0, none⟩) 1 1 [.slice A5 (V.length + k) c5] rfl (Sl.new w5 23 #[.slice A5 (V.length + k) c5] 1 1 1 _ rfl (Nat.le_refl _) rfl rfl) (by intro u hu; simp at hu; subst hu; rfl) (i + 1) rfl _ rfl (by unfold maxLen; omega) (by omega) (by simp; omega) ?_; intro A6 c6 w6 hown6 hg6; have Hown6 := Lib.hid hown6; have Hg6 := Lib.hid hg6; clear hown6 hg6))
            go_roundg (m - (i + 1))
            case measure => have := HG.out; omega
            case rel =>
              refine ⟨i + 1, A6, c6, _, rfl, by omega, by go_num, rfl, Hown6.out, Lib.hid ?_, ?_⟩
              · rw [List.range_succ, List.map_append, List.map_cons, List.map_nil]
                have hpart : cPart l s m i = V ++ (l.drop P).take s := by rw [HV.out, HPe.out]; rfl
                rw [hpart]
                have e1 := Hown5.out
                rw [← byteCells_append] at e1
                have al := (Below.refl w5.heap.size w5).alloc (Nat.le_refl _) (.cells #[.slice A5 (V.length + k) c5] 23)
                exact ((((hbs.out.below Hb5.out (Nat.le_refl _)).below al (Nat.le_refl _))).snoc (by have := e1.1; rw [byteCells_length] at this; omega) (own_below e1 al (Nat.le_refl _))).apart (own_alloc own2 _) (by decide) Hg6.out
              · exact ((bb.trans (Hb5.out.mono zz)).alloc (by omega) _).grown Hg6.out (by simp; omega) (fun k hk => ((own_alloc own2 (.cells #[.slice A5 (V.length + k) c5] 23)).lt k hk).1)
        · obtain rfl : i = m := by omega
          go_wp2_with fail
          go_ret
          refine ⟨A2, c2, vs, ?_, ?_, ?_, bb⟩
          · rw [Hcp.out]; simp
          · rw [Hcp.out]; simpa using hown
          · rw [Hcp.out]; exact hbs.out
end Go.Proofs.Ytfeeincglijmjaa
