/- The walk of the document's Add. -/
import Derived.Test.YtgckedeaoglehaaF
import Derived.Test.YtgckedeaoglehaaG
import Derived.Outline
import Derived.Deep.DeepCutAuto
import Derived.Deep.CutRange
namespace Go.Proofs.Ytgckedeaoglehaa
open Go.RowKit
set_option linter.unusedVariables false
set_option linter.unusedSimpArgs false
attribute [local go_sem ↓] Go.wp_at_zero Go.wp_at_succ

/-- What holds at the head of the document's loop. -/
def KInv (F : List (Int × Int)) (l : List (Int × Int)) (i : Nat) (acc : List (Int × Int)) (o : Int × Int) (laid : Bool) : Prop :=
  0 ≤ o.1 ∧ o.1 ≤ o.2 ∧ o.2 ≤ 4611686018427387903 ∧ acc.length ≤ i + 1 ∧ (laid = false ∧ acc.length ≤ i ∧ F = acc ++ rIns o (l.drop i) ∨ laid = true ∧ F = acc ++ l.drop i ∧ rDesc (o.1 - 1) (l.drop i))

theorem rDesc_drop : ∀ {l : List (Int × Int)} {b : Int} (k : Nat), rDesc b l → rDesc b (l.drop k)
  | [], _, k, _ => by rw [List.drop_nil]; trivial
  | p :: l, b, 0, h => h
  | p :: l, b, k + 1, ⟨h1, h2, h3, h4⟩ => rDesc_mono (rDesc_drop k h4) (by omega)

theorem KInv.above {F l : List (Int × Int)} {i : Nat} {acc : List (Int × Int)} {o : Int × Int} (h : KInv F l i acc o false) (hi : i < l.length) (c : o.2 + 1 < l[i].1) : KInv F l (i + 1) (acc ++ [l[i]]) o false := by
  obtain ⟨h0, h1, h2, h3, h4 | h4⟩ := h
  · obtain ⟨_, h4, h5⟩ := h4
    refine ⟨h0, h1, h2, by simp; omega, .inl ⟨rfl, by simp; omega, ?_⟩⟩
    rw [h5, List.drop_eq_getElem_cons hi, rIns_above c]
    simp
  · cases h4.1
theorem KInv.under {F l : List (Int × Int)} {b : Int} {i : Nat} {acc : List (Int × Int)} {o : Int × Int} (h : KInv F l i acc o false) (hl : rDesc b l) (hi : i < l.length) (c : ¬ o.2 + 1 < l[i].1) (c2 : l[i].2 < o.1 - 1) : KInv F l (i + 1) (acc ++ [o] ++ [l[i]]) o true := by
  obtain ⟨h0, h1, h2, h3, h4 | h4⟩ := h
  · obtain ⟨_, h4, h5⟩ := h4
    have hd := rDesc_drop i hl
    rw [List.drop_eq_getElem_cons hi] at hd h5
    refine ⟨h0, h1, h2, by simp; omega, .inr ⟨rfl, ?_, rDesc_mono hd.2.2.2 (by have := hd.2.1; omega)⟩⟩
    rw [h5, rIns_below c c2]
    simp
  · cases h4.1
theorem KInv.join {F l : List (Int × Int)} {b : Int} {i : Nat} {acc : List (Int × Int)} {o : Int × Int} (h : KInv F l i acc o false) (hl : rDesc b l) (hb : b ≤ 4611686018427387904) (hi : i < l.length) (c : ¬ o.2 + 1 < l[i].1) (c2 : ¬ l[i].2 < o.1 - 1) : KInv F l (i + 1) acc (min o.1 l[i].1, max o.2 l[i].2) false := by
  obtain ⟨h0, h1, h2, h3, h4 | h4⟩ := h
  · obtain ⟨_, h4, h5⟩ := h4
    have hm := rDesc_mem hl l[i] (List.getElem_mem hi)
    refine ⟨by simp only; omega, by simp only; omega, by simp only; omega, by omega, .inl ⟨rfl, by omega, ?_⟩⟩
    rw [h5, List.drop_eq_getElem_cons hi, rIns_join c c2]
  · cases h4.1
theorem KInv.laid {F l : List (Int × Int)} {i : Nat} {acc : List (Int × Int)} {o : Int × Int} (h : KInv F l i acc o true) (hi : i < l.length) : (¬ o.2 + 1 < l[i].1 ∧ l[i].2 < o.1 - 1) ∧ (acc.length ≤ i → True) ∧ (acc.length ≤ i + 1 → KInv F l (i + 1) (acc ++ [l[i]]) o true) := by
  obtain ⟨h0, h1, h2, h3, h4 | h4⟩ := h
  · cases h4.1
  · obtain ⟨_, h5, hd⟩ := h4
    rw [List.drop_eq_getElem_cons hi] at hd h5
    refine ⟨⟨by have := hd.2.1; have := hd.2.2.1; omega, hd.2.2.1⟩, fun _ => trivial, fun _ => ⟨h0, h1, h2, by simp; omega, .inr ⟨rfl, ?_, rDesc_mono hd.2.2.2 (by have := hd.2.1; have := hd.2.2.1; omega)⟩⟩⟩
    rw [h5]
    simp
theorem KInv.done {F l : List (Int × Int)} {acc : List (Int × Int)} {o : Int × Int} {laid : Bool} (h : KInv F l l.length acc o laid) : F = if laid = true then acc else acc ++ [o] := by
  obtain ⟨h0, h1, h2, h3, h4 | h4⟩ := h
  · obtain ⟨rfl, h4, h5⟩ := h4
    rw [h5, List.drop_length]
    rfl
  · obtain ⟨rfl, h5, _⟩ := h4
    rw [h5, List.drop_length]
    simp

theorem own_setFar {w : World} {base : Nat} {e : TypeId} {s : Nat} {v : Value} {n : Nat} {xs : List Value} (h : w.ownsRow base e s v n xs) {p : Addr} (hne : v.ownBlock ≠ some p.block) (u : Value) : (w.setCell p u).ownsRow base e s v n xs :=
  h.kept (row := some p.block) ⟨rfl, rfl, rfl, by simp, fun k _ hk => Below.heap_setCell w p u k (fun e => hk (by rw [e]))⟩ (.inr hne)
theorem own_cutTo {w : World} {base s n c m : Nat} {e : TypeId} {A : Option Addr} {xs : List Value} (h : w.ownsRow base e s (.slice A n c) n xs) (hm : m ≤ n) (hn : 0 < n) : w.ownsRow base e s (.slice A m c) m (xs.take (m * s)) := by
  obtain ⟨g, cur, rfl, hb, hg, hnc, hcm, hcs, ht⟩ := own_split h hn
  refine own_mk hb hg (by omega) hcm hcs ?_
  rw [← ht, List.take_take, Nat.min_eq_left (Nat.mul_le_mul_right _ hm)]
theorem sl_one {w : World} {x : Int × Int} {g : Nat} (hg : w.heap.size = g) : Sl (w.alloc (.cells #[.int .i64 x.1, .int .i64 x.2] 34)) g (g + 1) 2 (some ⟨g, 0, none⟩) 1 1 (rCells [x]) := Sl.new w 34 _ 2 1 1 _ hg (Nat.le_refl _) rfl rfl

set_option maxHeartbeats 8000000 in
set_option maxRecDepth 100000 in
theorem radd_ok {lo up : Nat} {A : Option Addr} {n c : Nat} {l : List (Int × Int)} {x : Int} {w : World} (hr : Sl w lo up 2 A n c (rCells l)) (hup : up ≤ w.heap.size) (hn : n ≤ 1000) (hk : rOk l = true) (hx : -9223372036854775808 ≤ x ∧ x ≤ 9223372036854775807) :
    Calls Try.prog 11 #[.slice A n c, .int .i64 x] w (RetR w (rAdd l x)) := by
  have hd := rOk_desc hk
  have HC := Lib.hid (rcheck_fits hn (rWf_desc hd.1) w hr hup)
  rw [hk] at HC
  have hlen : n = l.length := by have := hr.len; rw [rCells_length] at this; omega
  subst hlen
  obtain ⟨i0, hi0, hz0, hz1, hz2⟩ := info_parts info34
  have HR := Lib.hid hr
  have HF : Hid (rAdd l x = if 0 ≤ x ∧ x ≤ 4611686018427387903 then (rIns (x, x) (rOf l)).take 16 else rOf l) := rfl
  rw [rOf_ok hk] at HF
  generalize rAdd l x = F at *
  have hL := hd.2
  have HD := Lib.hid hd.1
  clear hr hd hk
  by_cases h1 : x < 0
  · have hF := HF.out
    rw [if_neg (by omega)] at hF
    subst hF
    clear HF HD
    go_enter Try.func11, Try.ntmps11
    go_wp2_with fail
    refine HC.out.mono ?_
    rintro e w1 ⟨rfl, hb⟩
    go_wp2_with (at_builtin; refine wpList_append_sl _ rfl (.tmp 22) (.tmp 23) _ rfl w.heap.size 34 i0 _ 2 16 Try.underlying22 hi0 hz0 hz1 hz2 rfl (by omega) (.slice none 0 0) 0 [] rfl (World.ownsRow_nil _ _ _ _) lo up _ F.length c _ rfl (HR.out.below hb hup) (rCells_one F) F.length (by omega) _ rfl (by unfold maxLen; omega) (by omega) hb.size ?_; intro A' c' w' hown hg)
    go_ret
    exact ⟨A', c', rfl, hown, hb.grown hg hb.size (fun k hk => by simp [Value.ownBlock] at hk)⟩
  by_cases h2 : 4611686018427387904 ≤ x
  · have hF := HF.out
    rw [if_neg (by omega)] at hF
    subst hF
    clear HF HD
    go_enter Try.func11, Try.ntmps11
    go_wp2_with fail
    refine HC.out.mono ?_
    rintro e w1 ⟨rfl, hb⟩
    go_wp2_with (at_builtin; refine wpList_append_sl _ rfl (.tmp 22) (.tmp 23) _ rfl w.heap.size 34 i0 _ 2 16 Try.underlying22 hi0 hz0 hz1 hz2 rfl (by omega) (.slice none 0 0) 0 [] rfl (World.ownsRow_nil _ _ _ _) lo up _ F.length c _ rfl (HR.out.below hb hup) (rCells_one F) F.length (by omega) _ rfl (by unfold maxLen; omega) (by omega) hb.size ?_; intro A' c' w' hown hg)
    go_ret
    exact ⟨A', c', rfl, hown, hb.grown hg hb.size (fun k hk => by simp [Value.ownBlock] at hk)⟩
  have hF := HF.out
  rw [if_pos (by omega)] at hF
  clear HF
  have HF := Lib.hid hF
  clear hF
  have K0 : Hid (KInv (rIns (x, x) l) l 0 [] (x, x) false) := Lib.hid ⟨by simp only; omega, Int.le_refl _, by simp only; omega, by simp, .inl ⟨rfl, by simp, rfl⟩⟩
  go_enter Try.func11, Try.ntmps11
  go_wp2_with fail
  refine HC.out.mono ?_
  clear HC
  rintro e w1 ⟨rfl, hb⟩
  have z1 := hb.size
  go_wp2_with fail
  go_loopg [5, 8, 9] l.length (fun gh s5 s8 s9 wr => ∃ (i : Nat) (acc : List (Int × Int)) (A2 : Option Addr) (c2 : Nat) (o : Int × Int) (laid : Bool), gh = l.length - i ∧ i ≤ l.length ∧ s5 = .slice A2 acc.length c2 ∧ s8 = .bool laid ∧ s9 = .int .i64 i ∧
    wr.ownsRow (w1.heap.size + 1) 34 2 (.slice A2 acc.length c2) acc.length (rCells acc) ∧ Blk wr w1.heap.size 34 #[.int .i64 o.1, .int .i64 o.2] ∧ Below w.heap.size w wr ∧ acc.length ≤ 17 ∧ Hid (KInv (rIns (x, x) l) l i acc o laid))
  case atStart => exact ⟨0, [], none, 0, (x, x), false, by omega, by omega, rfl, rfl, rfl, World.ownsRow_nil _ _ _ _, Blk.new w1 34 _ rfl, hb.alloc z1 _, by simp, K0⟩
  case round =>
    clear K0
    obtain ⟨i, acc, A2, c2, o, laid, hg, hi, rfl, rfl, rfl, hown, bO, bb, hacc, hK⟩ := hrel
    have z2 := bb.size
    have ⟨kc, kf⟩ := bO.rules
    have bOl := bO.lt
    obtain ⟨o0, o1, o2, hai, _⟩ := hK.out
    by_cases h : i < l.length
    · obtain ⟨g, ofs, rfl, hgu, hc⟩ := slr_cell (HR.out.below bb hup) (by omega)
      have k1 := (hc i h).1
      have k2 := (hc i h).2
      have a1 := addr_add g ofs (i * 2)
      have hm := rDesc_mem HD.out l[i] (List.getElem_mem h)
      by_cases q1 : o.2 + 1 < l[i].1
      · cases laid
        rotate_left
        · exact absurd q1 (hK.out.laid h).1.1
        have K1 := Lib.hid (hK.out.above h q1)
        have d1 : (o.2 + 1 < l[i].1) = True := eq_true q1
        clear hc hK
        obtain ⟨p, hp⟩ : ∃ p, p = l[i] := ⟨_, rfl⟩
        rw [← hp] at k1 k2 hm q1 d1 K1
        clear hp
        go_wp2_with fail
        go_region
        clear d1 q1
        go_wp2_with (at_builtin; refine wpList_append_sl _ rfl (.tmp 62) (.tmp 67) _ rfl (w1.heap.size + 1) 34 i0 _ 2 16 Try.underlying22 hi0 hz0 hz1 hz2 rfl (by omega) (.slice A2 acc.length c2) acc.length _ rfl (own_alloc (own_drew hown) _) wr.heap.size (wr.heap.size + 1) _ 1 1 _ rfl (sl_one (w := wr.drew) (x := p) rfl) (rCells_one _) (acc.length + 1) rfl _ (rCells_append acc [p]).symm (by unfold maxLen; omega) (by omega) (by simp; omega) ?_; intro A' c' w' hown' hg')
        go_roundg (l.length - (i + 1))
        case measure => omega
        case rel => exact ⟨i + 1, acc ++ [p], A', c', o, false, rfl, by omega, by rw [List.length_append]; rfl, rfl, by simp, by rw [List.length_append]; exact hown', (bO.drew.alloc _).grown hg' (fun e => by have := (hown.lt _ e.symm).1; omega),
          (bb.drew.alloc z2 _).grown hg' (by simp; omega) (fun k hk => by have := (hown.lt k hk).1; omega), by simp; omega, K1⟩
      have d1 : (o.2 + 1 < l[i].1) = False := eq_false q1
      by_cases q2 : l[i].2 < o.1 - 1
      · have d2 : (l[i].2 < o.1 - 1) = True := eq_true q2
        cases laid
        · have K1 := Lib.hid (hK.out.under HD.out h q1 q2)
          have hai2 : acc.length ≤ i := by
            rcases hK.out.2.2.2.2 with hh | hh
            · exact hh.2.1
            · cases hh.1
          clear hc hK
          obtain ⟨p, hp⟩ : ∃ p, p = l[i] := ⟨_, rfl⟩
          rw [← hp] at k1 k2 hm q1 q2 d1 d2 K1
          clear hp
          go_wp2_with fail
          go_region
          go_wp2_with fail
          go_region
          clear d1 d2 q1 q2
          go_wp2_with (first
            | (at_builtin; refine wpList_append_sl _ rfl (.tmp 81) (.tmp 83) _ rfl (w1.heap.size + 1) 34 i0 _ 2 16 Try.underlying22 hi0 hz0 hz1 hz2 rfl (by omega) (.slice A2 acc.length c2) acc.length _ rfl (own_alloc (own_drew (own_drew hown)) _) wr.heap.size (wr.heap.size + 1) _ 1 1 _ rfl (sl_one (w := wr.drew.drew) (x := o) rfl) (rCells_one _) (acc.length + 1) rfl _ (rCells_append acc [o]).symm (by unfold maxLen; omega) (by omega) (by simp; omega) ?_; intro A3 c3 w3 hown3 hg3; have hb3 := grown_below (B := w1.heap.size) hg3 (by simp; omega) (fun k hk => by have := (hown.lt k hk).1; omega); have k5 := (hb3.cell (p := ⟨g, ofs + i * 2, none⟩) (show g < w1.heap.size by omega)).trans ((World.cell?_alloc_lt (wr.drew.drew) _ ⟨g, ofs + i * 2, none⟩ (show g < wr.heap.size by omega)).trans k1); have k6 := (hb3.cell (p := ⟨g, ofs + i * 2 + 1, none⟩) (show g < w1.heap.size by omega)).trans ((World.cell?_alloc_lt (wr.drew.drew) _ ⟨g, ofs + i * 2 + 1, none⟩ (show g < wr.heap.size by omega)).trans k2); have lz : wr.heap.size + 1 ≤ w3.heap.size := by have h : (wr.alloc (.cells #[.int .i64 o.1, .int .i64 o.2] 34)).heap.size ≤ w3.heap.size := hb3.size; rw [World.size_alloc] at h; exact h)
            | go_loud (at_builtin; refine wpList_append_sl _ rfl (.tmp 85) (.tmp 90) _ rfl (w1.heap.size + 1) 34 i0 _ 2 16 Try.underlying22 hi0 hz0 hz1 hz2 rfl (by omega) (.slice A3 (acc.length + 1) c3) (acc.length + 1) _ rfl (own_alloc hown3 _) w3.heap.size (w3.heap.size + 1) _ 1 1 _ rfl (sl_one (w := w3) (x := p) rfl) (rCells_one _) ((acc.length + 1) + 1) rfl _ (rCells_append (acc ++ [o]) [p]).symm (by unfold maxLen; omega) (by omega) (by simp; omega) ?_; intro A4 c4 w4 hown4 hg4))
          go_roundg (l.length - (i + 1))
          case measure => omega
          case rel => exact ⟨i + 1, acc ++ [o] ++ [p], A4, c4, o, true, rfl, by omega, by rw [List.length_append, List.length_append]; rfl, rfl, by simp, by rw [List.length_append, List.length_append]; exact hown4, (((bO.drew.drew.alloc _).grown hg3 (fun e => by have := (hown.lt _ e.symm).1; omega)).alloc _).grown hg4 (fun e => by have := (hown3.lt _ e.symm).1; omega),
            ((((bb.drew.drew.alloc z2 _).grown hg3 (by simp; omega) (fun k hk => by have := (hown.lt k hk).1; omega)).alloc (by omega) _).grown hg4 (by simp; omega) (fun k hk => by have := (hown3.lt k hk).1; omega)), by simp; omega, K1⟩
        · have K1 := Lib.hid ((hK.out.laid h).2.2 hai)
          clear hc hK
          obtain ⟨p, hp⟩ : ∃ p, p = l[i] := ⟨_, rfl⟩
          rw [← hp] at k1 k2 hm q1 q2 d1 d2 K1
          clear hp
          go_wp2_with fail
          go_region
          go_wp2_with fail
          go_region
          clear d1 d2 q1 q2
          go_wp2_with (at_builtin; refine wpList_append_sl _ rfl (.tmp 85) (.tmp 90) _ rfl (w1.heap.size + 1) 34 i0 _ 2 16 Try.underlying22 hi0 hz0 hz1 hz2 rfl (by omega) (.slice A2 acc.length c2) acc.length _ rfl (own_alloc (own_drew (own_drew hown)) _) wr.heap.size (wr.heap.size + 1) _ 1 1 _ rfl (sl_one (w := wr.drew.drew) (x := p) rfl) (rCells_one _) (acc.length + 1) rfl _ (rCells_append acc [p]).symm (by unfold maxLen; omega) (by omega) (by simp; omega) ?_; intro A4 c4 w4 hown4 hg4)
          go_roundg (l.length - (i + 1))
          case measure => omega
          case rel => exact ⟨i + 1, acc ++ [p], A4, c4, o, true, rfl, by omega, by rw [List.length_append]; rfl, rfl, by simp, by rw [List.length_append]; exact hown4, ((bO.drew.drew.alloc _).grown hg4 (fun e => by have := (hown.lt _ e.symm).1; omega)),
            ((bb.drew.drew.alloc z2 _).grown hg4 (by simp; omega) (fun k hk => by have := (hown.lt k hk).1; omega)), by simp; omega, K1⟩
      · have d2 : (l[i].2 < o.1 - 1) = False := eq_false q2
        cases laid
        rotate_left
        · exact absurd (hK.out.laid h).1.2 q2
        have K1 := Lib.hid (hK.out.join HD.out (by omega) h q1 q2)
        obtain ⟨mn, hmn⟩ : ∃ mn, mn = min o.1 l[i].1 := ⟨_, rfl⟩
        obtain ⟨mx, hmx⟩ : ∃ mx, mx = max o.2 l[i].2 := ⟨_, rfl⟩
        have hai2 : acc.length ≤ i := by
          rcases hK.out.2.2.2.2 with hh | hh
          · exact hh.2.1
          · cases hh.1
        rw [← hmn, ← hmx] at K1
        have HN := Lib.hid hmn
        have HM := Lib.hid hmx
        clear hmn hmx
        have hne : ∀ v, wr.ownsRow (w1.heap.size + 1) 34 2 v acc.length (rCells acc) → v.ownBlock ≠ some w1.heap.size := fun v hv e => by have := (hv.lt _ e).1; omega
        have hneO := hne _ hown
        clear hc hK hne
        generalize l[i].1 = u at *
        generalize l[i].2 = v at *
        go_wp2_with fail
        go_region
        go_wp2_with fail
        go_region
        clear d1 d2
        go_upto_region 12 with fail
        by_cases m1 : o.1 ≤ u
        all_goals
          by_cases m2 : v ≤ o.2
          all_goals
            go_region
            go_wp2_with fail
            go_region
            go_wp2_with fail
            go_roundg (l.length - (i + 1))
            case measure => omega
            case rel =>
              refine ⟨i + 1, acc, A2, c2, (mn, mx), false, rfl, by omega, rfl, rfl, by simp, own_drew (own_drew (own_drew (own_drew (own_setFar (own_setFar hown hneO _) hneO _)))), ?_, Below.drew (Below.drew (Below.drew (Below.drew ((bb.setCell (by simp; omega) _).setCell (by simp; omega) _)))), hacc, K1⟩
              simp only
              first | rw [show mn = o.1 from by rw [HN.out]; omega] | rw [show mn = u from by rw [HN.out]; omega]
              first | rw [show mx = o.2 from by rw [HM.out]; omega] | rw [show mx = v from by rw [HM.out]; omega]
              exact Blk.drew (Blk.drew (Blk.drew (Blk.drew ((bO.set_ 0 _).set_ 1 _))))
    · obtain rfl : i = l.length := by omega
      have hF := HF.out
      have hK1 := hK.out.done
      rw [hK1] at hF
      have HF2 := Lib.hid hF
      clear hF hK1 HF
      cases laid
      · have hai2 : acc.length ≤ l.length := by
          rcases hK.out.2.2.2.2 with hh | hh
          · exact hh.2.1
          · cases hh.1
        clear hK
        by_cases h16 : acc.length + 1 ≤ 16
        · have hF := HF2.out
          rw [if_neg (by simp), List.take_of_length_le (by simp; omega)] at hF
          subst hF
          clear HF2
          go_wp2_with (at_builtin; refine wpList_append_sl _ rfl (.tmp 94) (.tmp 96) _ rfl (w1.heap.size + 1) 34 i0 _ 2 16 Try.underlying22 hi0 hz0 hz1 hz2 rfl (by omega) (.slice A2 acc.length c2) acc.length _ rfl (own_alloc hown _) wr.heap.size (wr.heap.size + 1) _ 1 1 _ rfl (sl_one (w := wr) (x := o) rfl) (rCells_one _) (acc.length + 1) rfl _ (rCells_append acc [o]).symm (by unfold maxLen; omega) (by omega) (by simp; omega) ?_; intro A4 c4 w4 hown4 hg4)
          go_ret
          exact ⟨A4, c4, by rw [List.length_append]; rfl, by rw [List.length_append]; exact own_more hown4 (by omega), (bb.alloc z2 _).grown hg4 (by simp; omega) (fun k hk => by have := (hown.lt k hk).1; omega)⟩
        · have hF := HF2.out
          rw [if_neg (by simp)] at hF
          have hfl : F.length = 16 := by rw [hF, List.length_take]; simp; omega
          have HFL := Lib.hid hfl
          have HF3 := Lib.hid hF
          clear HF2 hfl hF
          go_wp2_with (at_builtin; refine wpList_append_sl _ rfl (.tmp 94) (.tmp 96) _ rfl (w1.heap.size + 1) 34 i0 _ 2 16 Try.underlying22 hi0 hz0 hz1 hz2 rfl (by omega) (.slice A2 acc.length c2) acc.length _ rfl (own_alloc hown _) wr.heap.size (wr.heap.size + 1) _ 1 1 _ rfl (sl_one (w := wr) (x := o) rfl) (rCells_one _) (acc.length + 1) rfl _ (rCells_append acc [o]).symm (by unfold maxLen; omega) (by omega) (by simp; omega) ?_; intro A4 c4 w4 hown4 hg4; have HO4 := Lib.hid hown4; obtain ⟨g5, cur5, rfl, hb5, hh5, hnc5, hcm5, hcs5, ht5⟩ := own_split hown4 (by omega); unfold maxLen at hcm5; clear hh5 hcs5 ht5 hb5)
          go_ret
          refine ⟨some ⟨g5, 0, none⟩, c4, by rw [HFL.out]; rfl, ?_, (bb.alloc z2 _).grown hg4 (by simp; omega) (fun k hk => by have := (hown.lt k hk).1; omega)⟩
          have hown6 := own_cutTo (m := 16) HO4.out (by omega) (by omega)
          rw [rCells_take, ← HF3.out] at hown6
          rw [HFL.out]
          exact own_more hown6 (by omega)
      · clear hK
        by_cases h16 : acc.length ≤ 16
        · have hF := HF2.out
          rw [if_pos rfl, List.take_of_length_le h16] at hF
          subst hF
          clear HF2
          go_wp2
          go_ret
          exact ⟨A2, c2, rfl, own_more hown (by omega), bb⟩
        · have hF := HF2.out
          rw [if_pos rfl] at hF
          have hfl : F.length = 16 := by rw [hF, List.length_take]; omega
          have hown6 := own_cutTo (m := 16) hown (by omega) (by omega)
          rw [rCells_take, ← hF] at hown6
          obtain ⟨g5, cur5, rfl, hb5, hh5, hnc5, hcm5, hcs5, ht5⟩ := own_split hown (by omega)
          unfold maxLen at hcm5
          have HFL := Lib.hid hfl
          clear HF2 hfl hF hh5 hcs5 ht5 hb5
          go_wp2
          go_ret
          exact ⟨some ⟨g5, 0, none⟩, c2, by rw [HFL.out]; rfl, by rw [HFL.out]; exact own_more hown6 (by omega), bb⟩
end Go.Proofs.Ytgckedeaoglehaa
