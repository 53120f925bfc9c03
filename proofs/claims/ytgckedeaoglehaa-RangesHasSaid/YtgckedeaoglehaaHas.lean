/- The walk of RangesHas. -/
import Derived.Test.YtgckedeaoglehaaM
import Derived.Test.YtgckedeaoglehaaN
import Derived.Test.YtgckedeaoglehaaR
import Derived.Deep.DeepCutAuto
import Derived.Outline
namespace Go.Proofs.Ytgckedeaoglehaa
open Go.RowKit
set_option linter.unusedVariables false
set_option linter.unusedSimpArgs false
attribute [local go_sem ↓] Go.wp_at_zero Go.wp_at_succ

theorem hasl_no {A : Option Addr} {n c : Nat} {l : List (Int × Int)} {x m : Int} {w : World} (hr : Sl w 0 w.heap.size 2 A n c (rCells l)) (hcap : c ≤ maxLen) (hl : rWf l) (hk : rOk l = false) :
    Calls Try.prog 5 #[.slice A n c, .int .i64 x, .int .i64 m] w fun e w' => e = .returned (.bool true) ∧ Below w.heap.size w w' := by
  have hle := hr.le
  unfold maxLen at hcap
  have H1 := Lib.hid (fun W (h : Sl W 0 w.heap.size 2 A n c (rCells l)) (hu : w.heap.size ≤ W.heap.size) => check_big h hu (by omega) hl false (by rw [← rOk_iff, hk]))
  have H2 := Lib.hid (fun W (h : Sl W 0 w.heap.size 2 A n c (rCells l)) (hu : w.heap.size ≤ W.heap.size) (h16 : n ≤ 16) => rcheck_any h hu (by omega) hl false (by rw [← rOk_iff, hk]))
  have HR := Lib.hid hr
  clear hr hl hk
  go_enter Try.func5, Try.ntmps5
  go_wp2_with fail
  refine (awake_any _).mono ?_
  rintro e w1 ⟨rfl, bb⟩
  have z1 := bb.size
  go_wp2_with fail
  refine (H1.out _ (HR.out.below bb (Nat.le_refl _)) z1).mono ?_
  rintro e w2 ⟨rfl, hb2⟩
  have bb := bb.trans (hb2.mono z1)
  have z2 := bb.size
  clear hb2
  by_cases h16 : 16 < n
  · go_wp2
    go_ret
    exact ⟨rfl, bb⟩
  · go_wp2_with fail
    refine (H2.out _ (HR.out.below bb (Nat.le_refl _)) z2 (by omega)).mono ?_
    rintro e w3 ⟨rfl, hb3⟩
    have bb := bb.trans (hb3.mono z2)
    go_wp2
    go_ret
    exact ⟨rfl, bb⟩

theorem hasl_out {A : Option Addr} {n c : Nat} {l : List (Int × Int)} {x m : Int} {w : World} (hr : Sl w 0 w.heap.size 2 A n c (rCells l)) (hl : rWf l) (hk : rOk l = true) (hx : x < 0 ∨ 4611686018427387904 ≤ x) :
    Calls Try.prog 5 #[.slice A n c, .int .i64 x, .int .i64 m] w fun e w' => e = .returned (.bool true) ∧ Below w.heap.size w w' := by
  have h16 : n ≤ 16 := by have := hr.len; rw [rCells_length] at this; have := (rOk_desc hk).2; omega
  have H1 := Lib.hid (fun W (h : Sl W 0 w.heap.size 2 A n c (rCells l)) (hu : w.heap.size ≤ W.heap.size) => check_any h hu (by omega) hl true (by rw [← rOk_iff, hk]))
  have H2 := Lib.hid (fun W (h : Sl W 0 w.heap.size 2 A n c (rCells l)) (hu : w.heap.size ≤ W.heap.size) => rcheck_any h hu (by omega) hl true (by rw [← rOk_iff, hk]))
  have HR := Lib.hid hr
  clear hr hl hk
  rcases hx with hx | hx
  all_goals
    go_enter Try.func5, Try.ntmps5
    go_wp2_with fail
    refine (awake_any _).mono ?_
    rintro e w1 ⟨rfl, bb⟩
    have z1 := bb.size
    go_wp2_with fail
    refine (H1.out _ (HR.out.below bb (Nat.le_refl _)) z1).mono ?_
    rintro e w2 ⟨rfl, hb2⟩
    have bb := bb.trans (hb2.mono z1)
    have z2 := bb.size
    clear hb2
    go_wp2_with fail
    refine (H2.out _ (HR.out.below bb (Nat.le_refl _)) z2).mono ?_
    rintro e w3 ⟨rfl, hb3⟩
    have bb := bb.trans (hb3.mono z2)
    go_wp2
    go_ret
    exact ⟨rfl, bb⟩

set_option maxHeartbeats 8000000 in
set_option maxRecDepth 100000 in
theorem hasl_yes {A : Option Addr} {n c : Nat} {l : List (Int × Int)} {x m : Int} {w : World} (hr : Sl w 0 w.heap.size 2 A n c (rCells l)) (hl : rWf l) (hk : rOk l = true) (hx : 0 ≤ x ∧ x ≤ 4611686018427387903) :
    Calls Try.prog 5 #[.slice A n c, .int .i64 x, .int .i64 m] w fun e w' => e = .returned (.bool true) ∧ Below w.heap.size w w' := by
  obtain ⟨i0, hi0, hz0, hz1, hz2⟩ := info_parts info34
  have hlen : n = l.length := by have := hr.len; rw [rCells_length] at this; omega
  subst hlen
  have h16 : l.length ≤ 16 := (rOk_desc hk).2
  have H1 := Lib.hid (fun W (h : Sl W 0 w.heap.size 2 A l.length c (rCells l)) (hu : w.heap.size ≤ W.heap.size) => check_any h hu (by omega) hl true (by rw [← rOk_iff, hk]))
  have H2 := Lib.hid (fun W (h : Sl W 0 w.heap.size 2 A l.length c (rCells l)) (hu : w.heap.size ≤ W.heap.size) => add_any (x := x) h hu (by omega) hl (by omega))
  have H3 := Lib.hid (fun x W (h : Sl W 0 w.heap.size 2 A l.length c (rCells l)) (hu : w.heap.size ≤ W.heap.size) => has_any (x := x) h hu (by omega) hl)
  rw [rOf_ok hk] at H3
  obtain ⟨F, hF⟩ : ∃ F, F = rAdd l x := ⟨_, rfl⟩
  obtain ⟨hF0, hlaw⟩ := has_law (m := m) hk hx F hF
  have hFok : rOk F = true := by rw [hF]; exact rAdd_ok l x
  have hF16 : F.length ≤ 16 := (rOk_desc hFok).2
  have hFw : rWf F := rWf_desc (rOk_desc hFok).1
  rw [← hF] at H2
  have HF : Hid (rOk F = true ∧ rWf F) := Lib.hid ⟨hFok, hFw⟩
  have hlaw := hlaw (by omega)
  obtain ⟨low, hlow⟩ : ∃ low, low = (F[F.length - 1]'(by omega)).1 := ⟨_, rfl⟩
  rw [← hlow] at hlaw
  have HLow := Lib.hid hlow
  obtain ⟨full, hfull⟩ : ∃ full : Bool, full = decide (l.length = 16 ∧ F.length = 16) := ⟨_, rfl⟩
  rw [show (l.length = 16 ∧ F.length = 16) = (full = true) from by rw [hfull]; simp] at hlaw
  have HFull := Lib.hid hfull
  obtain ⟨s, hs⟩ : ∃ s : Bool, s = decide (F = l) := ⟨_, rfl⟩
  have hs2 : s = true ↔ F = l := by rw [hs]; simp
  rw [← hs2] at hlaw
  have HS := Lib.hid hs2
  have HR := Lib.hid hr
  have L1 := Lib.hid hlaw.1
  have L2 := Lib.hid hlaw.2.1
  have L3 := Lib.hid hlaw.2.2
  clear hr hl hk hF hFok hFw hlaw hlow hfull hs hs2
  go_enter Try.func5, Try.ntmps5
  go_wp2_with fail
  refine (awake_any _).mono ?_
  rintro e w1 ⟨rfl, bb⟩
  have z1 := bb.size
  go_wp2_with fail
  refine (H1.out _ (HR.out.below bb (Nat.le_refl _)) z1).mono ?_
  rintro e w2 ⟨rfl, hb2⟩
  have bb := bb.trans (hb2.mono z1)
  have z2 := bb.size
  clear hb2 z1
  go_wp2_with (at_builtin; refine wpList_append_sl _ rfl (.tmp 46) (.tmp 47) _ rfl w2.heap.size 34 i0 _ 2 16 Try.underlying22 hi0 hz0 hz1 hz2 rfl (by omega) (.slice (some ⟨w2.heap.size, 0, none⟩) 0 0) 0 [] rfl (own_made rfl (Nat.le_refl _)) 0 w.heap.size _ l.length c _ rfl ((HR.out.below bb (Nat.le_refl _)).alloc z2 _) (rCells_one l) l.length (by omega) _ rfl (by unfold maxLen; omega) (by omega) (by simp) ?_; intro A3 c3 w3 hown3 hg3; have bb3 := (bb.alloc z2 (.cells #[] 34)).grown hg3 (by simp; omega) (fun k hk => by simp [Value.ownBlock] at hk; omega); have z3 := bb3.size)
  refine (H2.out _ (HR.out.below bb3 (Nat.le_refl _)) z3).mono ?_
  rintro e w4 ⟨A4, c4, rfl, hown4, hb4⟩
  have bb4 := bb3.trans (hb4.mono z3)
  have z4 := bb4.size
  have sW := (Sl.of_own hown3).below hb4 (Nat.le_refl _)
  have sF := Sl.of_own hown4
  have SW := Lib.hid sW
  have SF := Lib.hid sF
  have hw3 := hb4.size
  have hlo : Hid (w2.heap.size ≤ w3.heap.size) := Lib.hid (by have h : (w2.alloc (.cells #[] 34)).heap.size ≤ w3.heap.size := hg3.size; rw [World.size_alloc] at h; omega)
  clear hown3 hown4 hb4 hg3 sW sF H1 H2
  go_wp2_with fail
  refine (check_any SF.out (Nat.le_refl _) (by omega) HF.out.2 true (by rw [← rOk_iff, HF.out.1])).mono ?_
  rintro e w5 ⟨rfl, hb5⟩
  have bb5 := bb4.trans (hb5.mono z4)
  have z5 := bb5.size
  have y5 := hb5.size
  go_wp2_with fail
  refine (same_any (HR.out.below bb5 (Nat.le_refl _)) (SW.out.below hb5 hw3) (by omega) (by omega) true (by simp)).mono ?_
  rintro e w6 ⟨rfl, hb6⟩
  have bb6 := bb5.trans (hb6.mono z5)
  have z6 := bb6.size
  have sF := (SF.out.below hb5 (Nat.le_refl _)).below hb6 y5
  have y6 : w4.heap.size ≤ w6.heap.size := by have := hb6.size; omega
  have SF2 := Lib.hid sF
  clear hb5 hb6 SW SF sF bb bb3 bb4 bb5
  obtain ⟨g, o, hA4, hgu, hc⟩ := slr_cell SF2.out (by omega)
  have k1 := (hc (F.length - 1) (by omega)).1
  rw [← HLow.out] at k1
  have a1 := addr_add g o ((F.length - 1) * 2)
  have t1 : ((F.length : Int) - 1).toNat = F.length - 1 := by omega
  have t2 : (0 : Int) ≤ (F.length : Int) - 1 := by omega
  have HA4 := Lib.hid hA4
  subst hA4
  clear hc HA4
  have hH : ∀ x W, Below w6.heap.size w6 W → Calls Try.prog 14 #[.slice (some ⟨g, o, none⟩) F.length c4, .int .i64 x] W fun e w' => e = .returned (.bool (rHas F x)) ∧ Below W.heap.size W w' := by
    intro x W hW
    have := has_any (x := x) (SF2.out.below hW y6) (by have := hW.size; omega) (by omega) HF.out.2
    rw [rOf_ok HF.out.1] at this
    exact this
  have hG : ∀ x W, Below w6.heap.size w6 W → Calls Try.prog 14 #[.slice A l.length c, .int .i64 x] W fun e w' => e = .returned (.bool (rHas l x)) ∧ Below W.heap.size W w' :=
    fun x W hW => H3.out x W (HR.out.below (bb6.trans (hW.mono z6)) (Nat.le_refl _)) (by have := hW.size; omega)
  have hQ : ∀ W, Below w6.heap.size w6 W → Calls Try.prog 9 #[.slice (some ⟨g, o, none⟩) F.length c4, .slice A l.length c] W fun e w' => e = .returned (.bool s) ∧ Below W.heap.size W w' :=
    fun W hW => same_any (SF2.out.below hW y6) (HR.out.below (bb6.trans (hW.mono z6)) (Nat.le_refl _)) (by omega) (by omega) s HS.out
  have HH := Lib.hid hH
  have HG := Lib.hid hG
  have HQ := Lib.hid hQ
  obtain ⟨fx, hfx⟩ : ∃ fx, fx = rHas F x := ⟨_, rfl⟩
  obtain ⟨fm, hfm⟩ : ∃ fm, fm = rHas F m := ⟨_, rfl⟩
  obtain ⟨lx, hlx⟩ : ∃ lx, lx = rHas l x := ⟨_, rfl⟩
  obtain ⟨lm, hlm⟩ : ∃ lm, lm = rHas l m := ⟨_, rfl⟩
  have HHx := Lib.hid (HH.out x)
  have HHm := Lib.hid (HH.out m)
  have HGx := Lib.hid (HG.out x)
  have HGm := Lib.hid (HG.out m)
  rw [← hfx] at HHx L1
  rw [← hfm] at HHm L2
  rw [← hlx] at HGx L3
  rw [← hlm] at HGm L2
  clear hfx hfm hlx hlm hH hG hQ HH HG H3
  go_upto_region 9 with fail
  go_cut [11] (fun s11 wx => s11 = .bool full ∧ w6 = wx)
  case first =>
    by_cases q1 : l.length = 16
    · have d1 : ((l.length : Int) == 16) = true := by simp; omega
      have Q1 := Lib.hid q1
      clear q1
      by_cases q2 : F.length = 16
      · have d2 : ((F.length : Int) == 16) = true := by simp; omega
        have Q2 := Lib.hid q2
        clear q2
        go_wp2_with fail
        go_meet
        exact ⟨by rw [HFull.out]; simp [Q1.out, Q2.out], rfl⟩
      · have d2 : ((F.length : Int) == 16) = false := by simp; omega
        have Q2 := Lib.hid q2
        clear q2
        go_wp2_with fail
        go_meet
        exact ⟨by rw [HFull.out]; simp [Q1.out, Q2.out], rfl⟩
    · have d1 : ((l.length : Int) == 16) = false := by simp; omega
      have Q1 := Lib.hid q1
      clear q1
      go_wp2_with fail
      go_meet
      exact ⟨by rw [HFull.out]; simp [Q1.out], rfl⟩
  case rest =>
    obtain ⟨rfl, rfl⟩ := hcut
    go_upto_region 10 with fail
    go_cut [12] (fun s12 wx => s12 = .bool true ∧ Below w6.heap.size w6 wx)
    case first =>
      cases fx
      · obtain ⟨rfl, hxl⟩ := L1.out.resolve_left (by simp)
        go_wp2_with fail
        refine (HHx.out _ (Below.refl _ _)).mono ?_
        rintro e w7 ⟨rfl, hb7⟩
        go_wp2_with fail
        go_meet
        exact ⟨rfl, hb7⟩
      · go_wp2_with fail
        refine (HHx.out _ (Below.refl _ _)).mono ?_
        rintro e w7 ⟨rfl, hb7⟩
        go_wp2_with fail
        go_meet
        exact ⟨rfl, hb7⟩
    case rest =>
      obtain ⟨rfl, hb7⟩ := hcut
      have y7 := hb7.size
      go_upto_region 11 with fail
      go_cut [13] (fun s13 wx => s13 = .bool true ∧ Below w6.heap.size w6 wx)
      case first =>
        by_cases hmx : m = x
        · have hmx1 : (m == x) = true := by simpa using hmx
          have HMX := Lib.hid hmx
          clear hmx
          cases fm
          · have hl2 := L2.out.resolve_left (fun hh => by have := hh.2 (.inr HMX.out); simp at this)
            obtain ⟨rfl, hml, _⟩ := hl2
            cases lm
            all_goals
              go_wp2_with fail
              refine (HHm.out _ hb7).mono ?_
              rintro e w8 ⟨rfl, hb8⟩
              have hb8 := hb7.trans (hb8.mono y7)
              have y8 := hb8.size
              go_wp2_with fail
              refine (HGm.out _ hb8).mono ?_
              rintro e w9 ⟨rfl, hb9⟩
              have hb9 := hb8.trans (hb9.mono y8)
              have y9 := hb9.size
              go_wp2_with fail
              refine (HHm.out _ hb9).mono ?_
              rintro e w10 ⟨rfl, hb10⟩
              have hb10 := hb9.trans (hb10.mono y9)
              go_wp2_with fail
              go_meet
              exact ⟨rfl, hb10⟩
          · cases lm
            all_goals
              go_wp2_with fail
              refine (HHm.out _ hb7).mono ?_
              rintro e w8 ⟨rfl, hb8⟩
              have hb8 := hb7.trans (hb8.mono y7)
              have y8 := hb8.size
              go_wp2_with fail
              refine (HGm.out _ hb8).mono ?_
              rintro e w9 ⟨rfl, hb9⟩
              have hb9 := hb8.trans (hb9.mono y8)
              go_wp2_with fail
              go_meet
              exact ⟨rfl, hb9⟩
        · have hmx1 : (m == x) = false := by simpa using hmx
          have HMX := Lib.hid hmx
          clear hmx
          by_cases heq : fm = lm
          · subst heq
            cases fm
            all_goals
              go_wp2_with fail
              refine (HHm.out _ hb7).mono ?_
              rintro e w8 ⟨rfl, hb8⟩
              have hb8 := hb7.trans (hb8.mono y7)
              have y8 := hb8.size
              go_wp2_with fail
              refine (HGm.out _ hb8).mono ?_
              rintro e w9 ⟨rfl, hb9⟩
              have hb9 := hb8.trans (hb9.mono y8)
              go_wp2_with fail
              go_meet
              exact ⟨rfl, hb9⟩
          · have hl2 := L2.out.resolve_left (fun hh => heq (by
              cases fm <;> cases lm
              · rfl
              · have := hh.2 (.inl rfl); simp at this
              · have := hh.1 rfl; simp at this; exact absurd this HMX.out
              · rfl))
            obtain ⟨rfl, hml, rfl⟩ := hl2
            obtain rfl : lm = true := by cases lm <;> simp at heq ⊢
            clear heq
            go_wp2_with fail
            refine (HHm.out _ hb7).mono ?_
            rintro e w8 ⟨rfl, hb8⟩
            have hb8 := hb7.trans (hb8.mono y7)
            have y8 := hb8.size
            go_wp2_with fail
            refine (HGm.out _ hb8).mono ?_
            rintro e w9 ⟨rfl, hb9⟩
            have hb9 := hb8.trans (hb9.mono y8)
            have y9 := hb9.size
            go_wp2_with fail
            refine (HHm.out _ hb9).mono ?_
            rintro e w10 ⟨rfl, hb10⟩
            have hb10 := hb9.trans (hb10.mono y9)
            go_wp2_with fail
            go_meet
            exact ⟨rfl, hb10⟩
      case rest =>
        obtain ⟨rfl, hb8⟩ := hcut
        have y8 := hb8.size
        go_wp2_with fail
        refine (HQ.out _ hb8).mono ?_
        rintro e w9 ⟨rfl, hb9⟩
        have hb9 := hb8.trans (hb9.mono y8)
        have y9 := hb9.size
        cases lx
        · by_cases hxl : x < low
          · cases full
            · obtain rfl : s = false := by
                cases s with
                | false => rfl
                | true => have := L3.out.2 rfl; simp at this
              go_wp2_with fail
              refine (HGx.out _ hb9).mono ?_
              rintro e w10 ⟨rfl, hb10⟩
              have bb := bb6.trans ((hb9.trans (hb10.mono y9)).mono z6)
              go_wp2
              go_ret
              exact ⟨rfl, bb⟩
            · obtain rfl : s = true := L3.out.1 (.inr ⟨rfl, hxl⟩)
              go_wp2_with fail
              refine (HGx.out _ hb9).mono ?_
              rintro e w10 ⟨rfl, hb10⟩
              have bb := bb6.trans ((hb9.trans (hb10.mono y9)).mono z6)
              go_wp2
              go_ret
              exact ⟨rfl, bb⟩
          · obtain rfl : s = false := by
              cases s with
              | false => rfl
              | true => have := L3.out.2 rfl; simp at this; omega
            have hxd : decide (x < low) = false := by simpa using hxl
            have HXD := Lib.hid hxd
            clear hxd
            cases full
            all_goals
              go_wp2_with fail
              refine (HGx.out _ hb9).mono ?_
              rintro e w10 ⟨rfl, hb10⟩
              have bb := bb6.trans ((hb9.trans (hb10.mono y9)).mono z6)
              go_wp2
              go_ret
              refine ⟨?_, bb⟩
              first | rfl | (show Ending.returned (.bool (!decide (x < low))) = _; rw [HXD.out]; rfl)
        · obtain rfl : s = true := L3.out.1 (.inl rfl)
          go_wp2_with fail
          refine (HGx.out _ hb9).mono ?_
          rintro e w10 ⟨rfl, hb10⟩
          have bb := bb6.trans ((hb9.trans (hb10.mono y9)).mono z6)
          go_wp2
          go_ret
          exact ⟨rfl, bb⟩

theorem hasl_any {A : Option Addr} {n c : Nat} {l : List (Int × Int)} {x m : Int} {w : World} (hr : Sl w 0 w.heap.size 2 A n c (rCells l)) (hcap : c ≤ maxLen) (hl : rWf l) :
    Calls Try.prog 5 #[.slice A n c, .int .i64 x, .int .i64 m] w fun e w' => e = .returned (.bool true) ∧ Below w.heap.size w w' := by
  cases hk : rOk l with
  | false => exact hasl_no hr hcap hl hk
  | true =>
    by_cases hx : 0 ≤ x ∧ x ≤ 4611686018427387903
    · exact hasl_yes hr hl hk hx
    · exact hasl_out hr hl hk (by omega)
end Go.Proofs.Ytgckedeaoglehaa
