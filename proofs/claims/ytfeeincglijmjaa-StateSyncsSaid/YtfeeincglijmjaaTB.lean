/- The walk of slices.ContainsFunc, as Collect calls it. -/
import Derived.Test.YtfeeincglijmjaaTA
namespace Go.Proofs.Ytfeeincglijmjaa
open Go.RowKit
set_option linter.unusedVariables false
set_option linter.unusedSimpArgs false
attribute [local go_sem ↓] Go.wp_at_zero Go.wp_at_succ

set_option maxHeartbeats 4000000 in
theorem iseq_any {lo up lo2 up2 g : Nat} {A P : Option Addr} {c cp : Nat} {l part : List UInt8} {w : World} (h : Sl w lo up 1 A l.length c (byteCells l)) (hb : Blk w g 23 #[.slice P part.length cp]) (h2 : Sl w lo2 up2 1 P part.length cp (byteCells part)) :
    Calls Try.prog 51 #[.slice A l.length c, .pointer (some ⟨g, 0, none⟩)] w fun e w' => e = .returned (.bool (decide (l = part))) ∧ w' = w := by
  have HE := Lib.hid (equal_any h h2)
  have k0 : w.cell? ⟨g, 0, none⟩ = some (.slice P part.length cp) := hb.rules.1 0
  clear h hb h2
  go_enter Try.func51, Try.ntmps51
  go_wp2_with fail
  refine HE.out.mono ?_
  rintro e w1 ⟨rfl, rfl⟩
  go_wp2_with fail
  go_ret
  exact ⟨rfl, rfl⟩

/-- The place of a part; below 0: none. -/
def pIdx (part : List UInt8) (ps : List (List UInt8)) : Int := rIdx (fun x => decide (x = part)) ps
theorem pIdx_iff (part : List UInt8) (ps : List (List UInt8)) : decide (0 ≤ pIdx part ps) = decide (part ∈ ps) := by
  unfold pIdx rIdx
  by_cases h : part ∈ ps
  · have : (ps.any fun x => decide (x = part)) = true := by simp [h]
    rw [if_pos this]
    simp [h]
  · have : ¬ ((ps.any fun x => decide (x = part)) = true) := by
      intro h2
      simp at h2
      exact h h2
    rw [if_neg this]
    simp [h]
theorem pIdx_nat (part : List UInt8) (ps : List (List UInt8)) : pIdx part ps = -1 ∨ ∃ k : Nat, pIdx part ps = k := by
  unfold pIdx rIdx
  split
  · exact .inr ⟨_, rfl⟩
  · exact .inl rfl

set_option maxHeartbeats 4000000 in
set_option maxRecDepth 100000 in
theorem indexb_any {lo up lo2 up2 lo3 up3 g : Nat} {A P : Option Addr} {n c cp : Nat} {vs : List Value} {ps : List (List UInt8)} {part : List UInt8} {w : World} (hv : Sl w lo2 up2 1 A n c vs) (hp : Ps w lo up vs ps) (hb : Blk w g 23 #[.slice P part.length cp]) (h2 : Sl w lo3 up3 1 P part.length cp (byteCells part)) (hn : n ≤ 9223372036854775807) :
    Calls Try.prog 86 #[.slice A n c, .func (.func 51) #[] #[.pointer (some ⟨g, 0, none⟩)]] w fun e w' => e = .returned (.int .i64 (pIdx part ps)) ∧ w' = w := by
  have hlen : n = vs.length := by have := hv.len; omega
  subst hlen
  have hvp : vs.length = ps.length := hp.1
  have HV := Lib.hid hv
  have HP := Lib.hid hp
  have HE := Lib.hid (fun (l : List UInt8) A c (h : Sl w lo up 1 A l.length c (byteCells l)) => iseq_any h hb h2)
  unfold pIdx
  have Hvp := Lib.hid hvp
  clear hv hp hb h2 hvp
  go_enter Try.func86, Try.ntmps86
  go_wp2_with fail
  go_loopg [8] vs.length (fun gh s8 wr => ∃ i : Nat, gh = vs.length - i ∧ i ≤ vs.length ∧ s8 = .int .i64 i ∧ wr = w ∧ Hid (∀ j (h : j < ps.length), j < i → (decide (ps[j] = part)) = false))
  case atStart => exact ⟨0, by omega, by omega, rfl, rfl, Lib.hid (fun _ _ h => absurd h (by omega))⟩
  case round =>
    obtain ⟨i, hgm, hi, rfl, rfl, hno⟩ := hrel
    have HGM := Lib.hid hgm
    clear hgm
    by_cases h : i < vs.length
    · obtain ⟨b0, o0, rfl, hg1, hg2, hc⟩ := HV.out.at_ (by omega)
      have hip : i < ps.length := by rw [← Hvp.out]; exact h
      have k1 : wr.cell? ⟨b0, o0 + i, none⟩ = some vs[i] := by
        rw [hc i h, List.getElem?_eq_getElem h]
      obtain ⟨A1, c1, ev, sl⟩ := HP.out.2 i vs[i] ps[i] (List.getElem?_eq_getElem h) (List.getElem?_eq_getElem hip)
      rw [ev] at k1
      have HC := Lib.hid (HE.out _ _ _ sl)
      have a1 := addr_add b0 o0 i
      have hiI : (i : Int) < vs.length := by omega
      clear hc ev sl HE
      cases hp : decide (ps[i] = part)
      · have hno2 : ∀ j (h : j < ps.length), j < i + 1 → (decide (ps[j] = part)) = false := by
          intro j hj hj1
          by_cases hji : j < i
          · exact hno.out j hj hji
          · obtain rfl : j = i := by omega
            exact hp
        have Hno2 := Lib.hid hno2
        rw [hp] at HC
        clear hno hno2 hp
        generalize ps[i] = x at *
        go_wp2_with fail
        refine HC.out.mono ?_
        rintro e w1 ⟨rfl, rfl⟩
        go_wp2_with fail
        go_roundg (vs.length - (i + 1))
        case measure => have := HGM.out; omega
        case rel => exact ⟨i + 1, rfl, by omega, by go_num, rfl, Hno2⟩
      · have Hidx := Lib.hid (rIdx_at (p := fun x : List UInt8 => decide (x = part)) hip hp hno.out)
        rw [hp] at HC
        clear hno hp
        generalize ps[i] = x at *
        go_wp2_with fail
        refine HC.out.mono ?_
        rintro e w1 ⟨rfl, rfl⟩
        go_wp2_with fail
        go_ret
        exact ⟨by rw [Hidx.out]; rfl, rfl⟩
    · obtain rfl : i = vs.length := by omega
      have Hidx := Lib.hid (rIdx_none (p := fun x : List UInt8 => decide (x = part)) (fun j hj => hno.out j hj (by rw [Hvp.out]; exact hj))).1
      clear hno
      go_wp2_with fail
      go_ret
      exact ⟨by rw [Hidx.out]; rfl, rfl⟩
theorem containsb_any {lo up lo2 up2 lo3 up3 g : Nat} {A P : Option Addr} {n c cp : Nat} {vs : List Value} {ps : List (List UInt8)} {part : List UInt8} {w : World} (hv : Sl w lo2 up2 1 A n c vs) (hp : Ps w lo up vs ps) (hb : Blk w g 23 #[.slice P part.length cp]) (h2 : Sl w lo3 up3 1 P part.length cp (byteCells part)) (hn : n ≤ 9223372036854775807) :
    Calls Try.prog 50 #[.slice A n c, .func (.func 51) #[] #[.pointer (some ⟨g, 0, none⟩)]] w fun e w' => e = .returned (.bool (decide (part ∈ ps))) ∧ w' = w := by
  have H := Lib.hid (indexb_any hv hp hb h2 hn)
  rw [← pIdx_iff]
  clear hv hp hb h2
  rcases pIdx_nat part ps with h | ⟨k, h⟩
  · rw [h] at H ⊢
    clear h
    go_enter Try.func50, Try.ntmps50
    go_wp2_with fail
    refine H.out.mono ?_
    rintro e w1 ⟨rfl, rfl⟩
    go_wp2_with fail
    go_ret
    exact ⟨rfl, rfl⟩
  · rw [h] at H ⊢
    clear h
    have hk0 : (0 : Int) ≤ k := by omega
    go_enter Try.func50, Try.ntmps50
    go_wp2_with fail
    refine H.out.mono ?_
    rintro e w1 ⟨rfl, rfl⟩
    go_wp2_with fail
    go_ret
    exact ⟨by simp [hk0], rfl⟩
end Go.Proofs.Ytfeeincglijmjaa
