/- Texts of this seat, one behind the other. -/
import Derived.Test.YtfeeincglijmjaaDE
import Derived.Test.YtfeeincglijmjaaZB6
import Derived.Deep.RegionHeld3
import Derived.Deep.DeepCutAuto
namespace Go.Proofs.Ytfeeincglijmjaa
/- The walk of the document's grounds. -/
section
open Go.RowKit
set_option linter.unusedVariables false
set_option linter.unusedSimpArgs false
attribute [local go_sem ↓] Go.wp_at_zero Go.wp_at_succ

set_option maxHeartbeats 8000000 in
set_option maxRecDepth 100000 in
theorem rgrounds_any {lo up : Nat} {s : Scr} {C M : Option Addr} {cc cm : Nat} {a b : Int} {w : World} (hat : ScrAt w lo up s C cc M cm) (hup : up ≤ w.heap.size) (hn : 0 ≤ a * b ∧ a * b ≤ 4096) :
    Calls Try.prog 60 #[.agg (s.v C cc M cm), .int .i64 a, .int .i64 b] w (RetG w (dGround s a b).1 (dGround s a b).2) := by
  obtain ⟨i0, hi0, hz0, hz1, hz2⟩ := info_parts info64
  obtain ⟨n, hn2⟩ : ∃ n : Nat, a * b = n := ⟨(a * b).toNat, by omega⟩
  have hn3 : n ≤ 4096 := by omega
  have hw : IntKind.i64.wrap (a * b) = n := by rw [hn2]; rw [IntKind.wrap_i64]; omega
  have HC := Lib.hid hat.c
  have HMm := Lib.hid hat.m
  have HG : Hid ((dGround s a b) = if s.W = a ∧ s.H = b then (s.cs, if s.al then s.ms else blanks n) else (blanks n, blanks n)) := Lib.hid (by unfold dGround; rw [hn2, Int.toNat_natCast])
  generalize dGround s a b = G at *
  obtain ⟨W, H, X, Y, At, Tp, Bt, wb, au, hi, al, s0, s1, s2, cs, ms⟩ := s
  unfold Scr.v
  simp only at HC HMm HG ⊢
  clear hn hn2 hat
  have bb := (Below.refl w.heap.size w).alloc (Nat.le_refl _) (.cells #[.int .i64 W, .int .i64 H, .slice C cs.length cc, .int .i64 X, .int .i64 Y, .int .i64 At, .int .i64 Tp, .int .i64 Bt, .bool wb, .bool au, .bool hi, .bool al, .int .i64 s0, .int .i64 s1, .int .i64 s2, .slice M ms.length cm] 35)
  have k1 := Blk.new w 35 #[.int .i64 W, .int .i64 H, .slice C cs.length cc, .int .i64 X, .int .i64 Y, .int .i64 At, .int .i64 Tp, .int .i64 Bt, .bool wb, .bool au, .bool hi, .bool al, .int .i64 s0, .int .i64 s1, .int .i64 s2, .slice M ms.length cm] rfl
  have hbl := fun (w : World) => run_build (P := Try.prog) w 64 #[(0, .int .i64 32)] #[.int .i64 32, .int .i64 0] (by kernel_rfl)
  go_enter Try.func60, Try.ntmps60
  go_wp2_with fail
  go_loopg [8, 9] n (fun gh s8 s9 wr => ∃ (i : Nat) (A : Option Addr) (c : Nat), gh = n - i ∧ i ≤ n ∧ s9 = .int .i64 i ∧ s8 = .slice A i c ∧ wr.ownsRow (w.heap.size + 1) 64 2 (.slice A i c) i (cCells (blanks i)) ∧ Blk wr w.heap.size 35 #[.int .i64 W, .int .i64 H, .slice C cs.length cc, .int .i64 X, .int .i64 Y, .int .i64 At, .int .i64 Tp, .int .i64 Bt, .bool wb, .bool au, .bool hi, .bool al, .int .i64 s0, .int .i64 s1, .int .i64 s2, .slice M ms.length cm] ∧ Below w.heap.size w wr ∧ w.heap.size < wr.heap.size)
  case atStart => exact ⟨0, none, 0, by omega, Nat.zero_le _, rfl, rfl, World.ownsRow_nil _ _ _ _, k1, bb, by simp⟩
  case round =>
    clear bb k1
    obtain ⟨i, A, c, hg, hi, rfl, rfl, hown, k1, bb, hz⟩ := hrel
    have HGg := Lib.hid hg
    clear hg
    by_cases h : i < n
    · have hi' : (i : Int) < n := by omega
      have HO := Lib.hid hown
      have e1 : cCells (blanks i) ++ cCells [(32, 0)] = cCells (blanks (i + 1)) := by rw [← cCells_append]; congr 1; simp [blanks, List.replicate_succ']
      have E1 := Lib.hid e1
      clear e1 hown
      go_wp2_with (at_builtin; refine wpList_append_sl _ rfl (.tmp 17) (.tmp 19) _ rfl (w.heap.size + 1) 64 i0 _ 2 16 Try.underlying32 hi0 hz0 hz1 hz2 rfl (by omega) (.slice A i c) i _ rfl (own_alloc HO.out _) wr.heap.size (wr.heap.size + 1) _ 1 1 (cCells [(32, 0)]) rfl (Sl.new wr 64 #[.int .i64 32, .int .i64 0] 2 1 1 (cCells [(32, 0)]) rfl (Nat.le_refl _) rfl rfl) (cCells_one _) (i + 1) rfl _ E1.out (by unfold maxLen; omega) (by omega) (by simp; omega) ?_; intro A5 c5 w5 hown5 hg5)
      have hz5 : wr.heap.size + 1 ≤ w5.heap.size := by have := hg5.size; rwa [World.size_alloc] at this
      go_roundg (n - (i + 1))
      case measure => have := HGg.out; omega
      case rel => exact ⟨i + 1, A5, c5, rfl, by omega, by go_num, rfl, hown5, (k1.alloc _).grown hg5 (fun e => by have := (HO.out.lt _ e.symm).1; omega), (bb.alloc (by omega) _).grown hg5 (by simp; omega) (fun k hk => by have := (HO.out.lt k hk).1; omega), by omega⟩
    · obtain rfl : i = n := by omega
      have ⟨kc, ke⟩ := k1.rules
      have sb := (Sl.of_own hown).more (lo' := 0) (Nat.zero_le _) (Nat.le_refl _)
      have sc := (HC.out.below bb hup).more (Nat.zero_le lo) (show up ≤ wr.heap.size by omega)
      have sm := (HMm.out.below bb hup).more (Nat.zero_le lo) (show up ≤ wr.heap.size by omega)
      clear hown k1
      by_cases h1 : W = a
      · subst h1
        by_cases h2 : H = b
        · subst h2
          have hG := HG.out
          rw [if_pos ⟨rfl, rfl⟩] at hG
          clear HG
          subst hG
          have y1 : (W != W) = false := by simp
          have y2 : (H != H) = false := by simp
          cases al
          · go_wp2_with fail
            go_ret2
            exact ⟨C, cc, A, c, by simp only [Bool.false_eq_true, if_false, blanks_length]; rfl, sc, by simp only [Bool.false_eq_true, if_false, blanks_length]; exact sb, bb⟩
          · go_wp2_with fail
            go_quiet (skip)
            go_wp2_with fail
            go_ret2
            exact ⟨C, cc, M, cm, rfl, sc.drewN _, sm.drewN _, below_drewN bb _⟩
        · have hG := HG.out
          rw [if_neg (fun hh => h2 hh.2)] at hG
          clear HG
          subst hG
          have y1 : (W != W) = false := by simp
          have y2 : (H != b) = true := by simpa using h2
          clear h2
          go_wp2_with fail
          go_ret2
          exact ⟨A, c, A, c, by simp only [blanks_length]; rfl, by rw [blanks_length]; exact sb, by rw [blanks_length]; exact sb, bb⟩
      · have hG := HG.out
        rw [if_neg (fun hh => h1 hh.1)] at hG
        clear HG
        subst hG
        have y1 : (W != a) = true := by simpa using h1
        clear h1
        go_wp2_with fail
        go_ret2
        exact ⟨A, c, A, c, by simp only [blanks_length]; rfl, by rw [blanks_length]; exact sb, by rw [blanks_length]; exact sb, bb⟩
end

/- The walk of the document's changes. -/
section
open Go.RowKit
set_option linter.unusedVariables false
set_option linter.unusedSimpArgs false
attribute [local go_sem ↓] Go.wp_at_zero Go.wp_at_succ

theorem below_drewN' {B : Nat} {a w : World} (h : Below B a w) (k : Nat) : Below B a (w.drewN k) := ⟨h.os, h.tape, h.output, h.size, h.block⟩
set_option maxHeartbeats 16000000 in
set_option maxRecDepth 100000 in
theorem rchanges_any {lo up lo2 up2 cf ct : Nat} {Af At : Option Addr} {f t : List (Int × Int)} {w : World} (hs : Sl w lo up 2 Af f.length cf (cCells f)) (hup : up ≤ w.heap.size) (hs2 : Sl w lo2 up2 2 At t.length ct (cCells t)) (hup2 : up2 ≤ w.heap.size)
    (hl : f.length = t.length) (hle : t.length ≤ 100000) : Calls Try.prog 62 #[.slice Af f.length cf, .slice At t.length ct] w (RetI w (dChg f t)) := by
  obtain ⟨i0, hi0, hz0, hz1, hz2⟩ := info_parts info3
  have HS := Lib.hid hs
  have HS2 := Lib.hid hs2
  have HL := Lib.hid hl
  have hl1 : f.length ≤ t.length := by omega
  have hl2 : t.length ≤ f.length := by omega
  clear hs hs2 hl
  go_enter Try.func62, Try.ntmps62
  go_wp2_with fail
  go_loopg [5, 6, 7, 8] (t.length) (fun gh s5 s6 s7 s8 wr => ∃ (p q k : Nat) (L : List Int) (A : Option Addr) (c : Nat), gh = t.length - q ∧ p ≤ q ∧ q ≤ t.length ∧ s7 = .int .i64 q ∧ s8 = .int .i64 ((q : Int) - (p : Int)) ∧ s6 = .int .i64 k ∧ s5 = .slice A L.length c ∧ wr.ownsRow w.heap.size 3 1 (.slice A L.length c) L.length (intCells L) ∧
    Hid (q - p ≤ dSame (f.drop p) (t.drop p)) ∧ Hid ((dRows 0 f t).drop k = dRows p (f.drop p) (t.drop p)) ∧ k ≤ (dRows 0 f t).length ∧ Hid (L = rNums ((dRows 0 f t).take k)) ∧ Below w.heap.size w wr)
  case atStart => exact ⟨0, 0, 0, [], none, 0, by omega, Nat.le_refl _, Nat.zero_le _, rfl, rfl, rfl, rfl, World.ownsRow_nil _ _ _ _, Lib.hid (Nat.zero_le _), Lib.hid rfl, Nat.zero_le _, Lib.hid rfl, Below.refl _ _⟩
  case round =>
    obtain ⟨p, q, k, L, A, c, hg, hpq, hqt, rfl, rfl, rfl, rfl, hown, hsame, hrows, hk, hL, bb⟩ := hrel
    have HG := Lib.hid hg
    clear hg
    have hst := same_step (j := q - p) HL.out hsame.out (by omega : p ≤ t.length)
    rw [show p + (q - p) = q from by omega] at hst
    have hqp : (p : Int) ≤ q := by omega
    have hq6 : (q : Int) ≤ 100000 := by omega
    by_cases h : q < t.length
    · have hif : q < f.length := by omega
      obtain ⟨bf, of, rfl, _, hcf⟩ := slc_cell (HS.out.below bb hup) (by omega)
      obtain ⟨bt, ot, rfl, _, hct⟩ := slc_cell (HS2.out.below bb hup2) (by omega)
      obtain ⟨k1, k2⟩ := hcf q hif
      obtain ⟨k3, k4⟩ := hct q h
      have a1 := addr_add bf of (q * 2)
      have a2 := addr_add bt ot (q * 2)
      have HCF := Lib.hid hcf
      have HCT := Lib.hid hct
      clear hcf hct
      by_cases he : f[q] = t[q]
      · have HS1 := Lib.hid (by have := hst.1 hif h he; omega : q + 1 - p ≤ dSame (f.drop p) (t.drop p))
        rw [← he] at k3 k4
        clear hst he hsame
        generalize f[q].1 = x at *
        generalize f[q].2 = y at *
        go_wp2_with fail
        go_quiet (skip)
        go_wp2_with fail
        go_roundg (t.length - (q + 1))
        case measure => have := HG.out; omega
        case rel => exact ⟨p, q + 1, k, L, A, c, rfl, by omega, by omega, by go_num, by go_num, rfl, rfl, hown, HS1, hrows, hk, hL, below_drewN' bb _⟩
      · have HS1 := Lib.hid (hst.2.1 hif h he)
        have hd1 : 1 ≤ dDiff (f.drop q) (t.drop q) := (diff_step (p := q) (j := 0) HL.out (Nat.zero_le _) (by omega)).1 hif h he
        obtain ⟨E, hE⟩ : ∃ E, E = q + dDiff (f.drop q) (t.drop q) := ⟨_, rfl⟩
        have hEt : E ≤ t.length := by have := dDiff_le (f.drop q) (t.drop q); rw [List.length_drop] at this; omega
        have hqE : q < E := by omega
        have HE := Lib.hid hE
        have hne : (f[q].1 == t[q].1) = false ∨ (f[q].1 = t[q].1 ∧ (f[q].2 == t[q].2) = false) := by
          by_cases hx : f[q].1 = t[q].1
          · exact .inr ⟨hx, by simp only [beq_eq_false_iff_ne]; exact fun hh => he (Prod.ext hx hh)⟩
          · exact .inl (by simp only [beq_eq_false_iff_ne]; exact hx)
        have Hne := Lib.hid hne
        clear hst he hsame hd1 hE hne
        generalize f[q].1 = x at *
        generalize f[q].2 = y at *
        generalize t[q].1 = x2 at *
        generalize t[q].2 = y2 at *
        go_upto_region 6 with fail
        go_cut [23] (fun s23 wx => ∃ n : Nat, s23 = .bool false ∧ wr.drewN n = wx)
        case first =>
          rcases Hne.out with hx | ⟨rfl, hy⟩
          · go_wp2_with fail
            go_quiet (skip)
            go_wp2_with fail
            go_meet
            exact ⟨_, rfl, rfl⟩
          · go_wp2_with fail
            go_quiet (skip)
            go_wp2_with fail
            go_meet
            exact ⟨_, rfl, rfl⟩
        case rest =>
          obtain ⟨n0, rfl, rfl⟩ := hcut
          clear k1 k2 k3 k4 a1 a2 Hne
          have hown := (show (wr.drewN n0).ownsRow w.heap.size 3 1 (.slice A L.length c) L.length (intCells L) from hown)
          have bb := below_drewN' bb n0
          have HCF2 : Hid (∀ j (h : j < f.length), (wr.drewN n0).cell? ⟨bf, of + j * 2, none⟩ = some (.int .i64 f[j].1) ∧ (wr.drewN n0).cell? ⟨bf, of + j * 2 + 1, none⟩ = some (.int .i64 f[j].2)) := HCF
          have HCT2 : Hid (∀ j (h : j < t.length), (wr.drewN n0).cell? ⟨bt, ot + j * 2, none⟩ = some (.int .i64 t[j].1) ∧ (wr.drewN n0).cell? ⟨bt, ot + j * 2 + 1, none⟩ = some (.int .i64 t[j].2)) := HCT
          clear HCF HCT
          generalize wr.drewN n0 = w1 at *
          go_wp2_with fail
          go_loopg [9] (t.length - q) (fun gh s9 w2 => ∃ e : Nat, gh = t.length - e ∧ q ≤ e ∧ e ≤ E ∧ s9 = .int .i64 e ∧ (∃ n, w2 = w1.drewN n))
          case atStart => exact ⟨q, rfl, Nat.le_refl _, by omega, rfl, 0, rfl⟩
          case round =>
            obtain ⟨e, hg2, hqe, heE, rfl, n, rfl⟩ := hrel
            have HG2 := Lib.hid hg2
            clear hg2
            by_cases heE2 : e < E
            · have het : e < t.length := by omega
              have hef : e < f.length := by omega
              obtain ⟨k1, k2⟩ := HCF2.out e hef
              obtain ⟨k3, k4⟩ := HCT2.out e het
              have a1 := addr_add bf of (e * 2)
              have a2 := addr_add bt ot (e * 2)
              have hne : (f[e].1 == t[e].1) = false ∨ (f[e].1 = t[e].1 ∧ (f[e].2 == t[e].2) = false) := by
                have h1 := dDiff_lt (f.drop q) (t.drop q) (e - q) (by have := HE.out; omega)
                rw [List.getElem?_drop, List.getElem?_drop, show q + (e - q) = e from by omega, List.getElem?_eq_getElem hef, List.getElem?_eq_getElem het] at h1
                have he : ¬ f[e] = t[e] := fun hh => h1 (by rw [hh])
                by_cases hx : f[e].1 = t[e].1
                · exact .inr ⟨hx, by simp only [beq_eq_false_iff_ne]; exact fun hh => he (Prod.ext hx hh)⟩
                · exact .inl (by simp only [beq_eq_false_iff_ne]; exact hx)
              have heI : (e : Int) < t.length := by omega
              have heI2 : (e : Int) ≤ 100000 := by omega
              generalize f[e].1 = x at *
              generalize f[e].2 = y at *
              generalize t[e].1 = x2 at *
              generalize t[e].2 = y2 at *
              rcases hne with hx | ⟨rfl, hy⟩
              all_goals
                go_wp2_with fail
                go_quiet (skip)
                go_wp2_with fail
                go_roundg (t.length - (e + 1))
                case measure => have := HG2.out; omega
                case rel => exact ⟨e + 1, rfl, by omega, by omega, by go_num, _, by first | rfl | exact World.drewN_drewN _ _ _⟩
            · obtain rfl : e = E := by omega
              go_upto_region 10 with fail
              go_cut [43] (fun s43 wx => ∃ n : Nat, s43 = .bool false ∧ w1.drewN n = wx)
              case first =>
                rcases Nat.lt_or_ge e t.length with het | het
                · have hef : e < f.length := by omega
                  obtain ⟨k1, k2⟩ := HCF2.out e hef
                  obtain ⟨k3, k4⟩ := HCT2.out e het
                  have a1 := addr_add bf of (e * 2)
                  have a2 := addr_add bt ot (e * 2)
                  have hee : f[e] = t[e] := by
                    have h1 := dDiff_end (f.drop q) (t.drop q) (by simp; omega) (by rw [List.length_drop]; have := HE.out; omega)
                    rw [show dDiff (f.drop q) (t.drop q) = e - q from by have := HE.out; omega, List.getElem?_drop, List.getElem?_drop, show q + (e - q) = e from by omega, List.getElem?_eq_getElem hef, List.getElem?_eq_getElem het] at h1
                    injection h1
                  rw [← hee] at k3 k4
                  have heI : (e : Int) < t.length := by omega
                  clear hee
                  generalize f[e].1 = x at *
                  generalize f[e].2 = y at *
                  go_wp2_with fail
                  go_quiet (skip)
                  go_wp2_with fail
                  go_meet
                  exact ⟨_, rfl, by first | rfl | exact (World.drewN_drewN _ _ _).symm⟩
                · have heI : ¬ ((e : Int) < t.length) := by omega
                  have heD : decide ((e : Int) < (t.length : Int)) = false := by rw [decide_eq_false_iff_not]; omega
                  have heN : (e < t.length) = False := eq_false (by omega)
                  have heM : decide (e < t.length) = false := by rw [decide_eq_false_iff_not]; omega
                  have heF : ((e : Int) < (t.length : Int)) = False := eq_false heI
                  go_wp2_with fail
                  go_quiet (skip)
                  go_wp2_with fail
                  go_meet
                  exact ⟨_, rfl, by first | rfl | exact (World.drewN_drewN _ _ _).symm⟩
              case rest =>
                obtain ⟨n2, rfl, rfl⟩ := hcut
                have hown := (show (w1.drewN n2).ownsRow w.heap.size 3 1 (.slice A L.length c) L.length (intCells L) from hown)
                have bb := below_drewN' bb n2
                have HCT3 : Hid (∀ j (h : j < t.length), (w1.drewN n2).cell? ⟨bt, ot + j * 2, none⟩ = some (.int .i64 t[j].1) ∧ (w1.drewN n2).cell? ⟨bt, ot + j * 2 + 1, none⟩ = some (.int .i64 t[j].2)) := HCT2
                clear HCF2 HCT2
                generalize w1.drewN n2 = w2 at *
                obtain ⟨hkM, hMk, hdrop⟩ := rows_next hrows.out hpq HS1.out hqE (by have := HE.out; omega : e - q = dDiff (f.drop q) (t.drop q))
                have HMk := Lib.hid hMk
                have Hdrop := Lib.hid hdrop
                have hLl : L.length ≤ 400000 := by
                  rw [hL.out]
                  have h1 := (rows_size (t.length + 1) 0 f t).2
                  have h2 : (rNums ((dRows 0 f t).take k)).length ≤ (rNums (dRows 0 f t)).length := by
                    have h3 := rNums_append ((dRows 0 f t).take k) ((dRows 0 f t).drop k)
                    rw [List.take_append_drop] at h3
                    rw [h3, List.length_append]
                    omega
                  have : (rNums (dRows 0 f t)).length ≤ 4 * t.length := h1
                  omega
                have HL2 := Lib.hid hL.out
                have heq : (q : Int) < e := by omega
                have hpqI : (p : Int) ≤ q := by omega
                have heI2 : (e : Int) ≤ 100000 := by omega
                have HOWN := Lib.hid hown
                have Hbb := Lib.hid bb
                have zz := bb.size
                clear hMk hdrop hown hrows hL HS1 HE
                go_wp2_with (at_builtin; refine wpList_append_sl _ rfl (.tmp 46) (.tmp 51) 88 rfl w.heap.size 3 i0 _ 1 8 Try.underlying88 hi0 hz0 hz1 hz2 rfl (by omega) (.slice A L.length c) L.length (intCells L) rfl (own_alloc HOWN.out _) w2.heap.size (w2.heap.size + 1) (some ⟨w2.heap.size, 0, none⟩) 2 2 (intCells [(q : Int) - (p : Int), (e : Int) - (q : Int)]) rfl (Sl.new w2 3 #[.int .i64 ((q : Int) - (p : Int)), .int .i64 ((e : Int) - (q : Int))] 1 2 2 _ rfl (Nat.le_refl _) rfl rfl) (intCells_one _) (L.length + 2) rfl _ rfl (by unfold maxLen; omega) (by omega) (by simp; omega) ?_; intro A3 c3 w3 hown3 hg3; have Hbb3 := Lib.hid ((Hbb.out.alloc zz (.cells #[.int .i64 ((q : Int) - (p : Int)), .int .i64 ((e : Int) - (q : Int))] 3)).grown hg3 (by simp; omega) (fun gg hgg => ((own_alloc HOWN.out (.cells #[.int .i64 ((q : Int) - (p : Int)), .int .i64 ((e : Int) - (q : Int))] 3)).lt gg hgg).1)); rw [← intCells_append] at hown3; have Hown3 := Lib.hid hown3; clear hown3 hg3)
                go_loopg [5, 10] (e - q) (fun gh s5 s10 wr => ∃ (i N : Nat) (A : Option Addr) (c : Nat), gh = e - i ∧ q ≤ i ∧ i ≤ e ∧ s10 = .int .i64 i ∧ s5 = .slice A N c ∧ Hid (N = L.length + 2 + 2 * (i - q)) ∧ wr.ownsRow w.heap.size 3 1 (.slice A N c) N (intCells (L ++ [(q : Int) - (p : Int), (e : Int) - (q : Int)] ++ cNums ((t.drop q).take (i - q)))) ∧ Below w.heap.size w wr)
                case atStart => exact ⟨q, L.length + 2, A3, c3, rfl, Nat.le_refl _, by omega, rfl, rfl, Lib.hid (by omega), by simpa [cNums] using Hown3.out, Hbb3.out⟩
                case round =>
                  obtain ⟨i, N, A4, c4, hg3, hqi, hie, rfl, rfl, hN, hown4, bb4⟩ := hrel
                  have HG3 := Lib.hid hg3
                  have hNb : N ≤ 700000 := by have := hN.out; omega
                  clear hg3
                  have zz4 := bb4.size
                  have HOWN4 := Lib.hid hown4
                  clear hown4
                  by_cases hi : i < e
                  · have hit : i < t.length := by omega
                    obtain ⟨bt2, ot2, et2, hgt2, hct2⟩ := slc_cell (HS2.out.below bb4 hup2) (by omega)
                    injection et2 with et2
                    injection et2 with et3 et4
                    subst et3 et4
                    obtain ⟨k1, k2⟩ := hct2 i hit
                    have a2 := addr_add bt ot (i * 2)
                    have a3 := addr_add bt (ot + i * 2) 1
                    have hiI : (i : Int) < t.length := by omega
                    have hiI2 : (i : Int) < e := by omega
                    have hbt : bt < wr.heap.size := World.block_lt_of_cell? wr _ k1
                    have HLst : Hid (intCells (L ++ [(q : Int) - (p : Int), (e : Int) - (q : Int)] ++ cNums ((t.drop q).take (i - q))) ++ intCells [t[i].1, t[i].2] = intCells (L ++ [(q : Int) - (p : Int), (e : Int) - (q : Int)] ++ cNums ((t.drop q).take (i + 1 - q)))) := Lib.hid (by
                      rw [← intCells_append, List.append_assoc]
                      congr 2
                      have e1 : (t.drop q).take (i + 1 - q) = (t.drop q).take (i - q) ++ [t[i]] := by
                        rw [show i + 1 - q = i - q + 1 from by omega, List.take_succ_eq_append_getElem (by rw [List.length_drop]; omega)]
                        congr 2
                        rw [List.getElem_drop]
                        congr 1
                        omega
                      rw [e1, cNums_append]
                      rfl)
                    have hbu : bt < w.heap.size := by
                      obtain ⟨bq, oq, eq, _, hq2, _⟩ := HS2.out.at_ (by omega)
                      injection eq with eq
                      injection eq with eq _
                      omega
                    clear hct2 hgt2
                    generalize t[i].1 = x at *
                    generalize t[i].2 = y at *
                    generalize intCells (L ++ [(q : Int) - (p : Int), (e : Int) - (q : Int)] ++ cNums ((t.drop q).take (i - q))) = LL at *
                    obtain ⟨LL2, hLL2⟩ : ∃ z, z = intCells (L ++ [(q : Int) - (p : Int), (e : Int) - (q : Int)] ++ cNums ((t.drop q).take (i + 1 - q))) := ⟨_, rfl⟩
                    rw [← hLL2] at HLst
                    have HLL2 := Lib.hid hLL2
                    clear hLL2
                    go_upto_region 16 with fail
                    have hS : ∀ ob : Obj, (fun w' : World => w'.cell? ⟨bt, ot + i * 2, none⟩ = some (.int .i64 x) ∧ w'.cell? ⟨bt, ot + i * 2 + 1, none⟩ = some (.int .i64 y)) (wr.alloc ob) := fun ob => ⟨(World.cell?_alloc_lt _ _ _ hbt).trans k1, (World.cell?_alloc_lt _ _ _ hbt).trans k2⟩
                    go_region_held3 (fun w' : World => w'.cell? ⟨bt, ot + i * 2, none⟩ = some (.int .i64 x) ∧ w'.cell? ⟨bt, ot + i * 2 + 1, none⟩ = some (.int .i64 y)) (first | exact ⟨k1, k2⟩ | exact hS _ | exact kS6)
                      ((refine step_append_sl _ rfl (.tmp 59) (.tmp 70) 88 rfl w.heap.size 3 i0 _ 1 8 Try.underlying88 hi0 hz0 hz1 hz2 rfl (by omega) (.slice A4 N c4) N LL (by simp [Act.eval, Act.put]) (by first | exact own_alloc HOWN4.out _ | exact own_drew (own_alloc HOWN4.out _) | exact own_alloc (own_drew HOWN4.out) _) wr.heap.size (wr.heap.size + 1) (some ⟨wr.heap.size, 0, none⟩) 2 2 (intCells [x, y]) (by simp [Act.eval, Act.put]) (by first | exact Sl.new wr 3 #[.int .i64 x, .int .i64 y] 1 2 2 _ rfl (Nat.le_refl _) rfl rfl | exact Sl.drew (Sl.new wr 3 #[.int .i64 x, .int .i64 y] 1 2 2 _ rfl (Nat.le_refl _) rfl rfl) | exact Sl.new wr.drew 3 #[.int .i64 x, .int .i64 y] 1 2 2 _ rfl (Nat.le_refl _) rfl rfl) (intCells_one _) (N + 2) rfl _ HLst.out (by unfold maxLen; omega) (by omega) (by first | (simp; omega) | (show _ ≤ (wr.alloc _).heap.size; simp; omega)) ?_; intro A6 c6 w6 hown6 hg6; have Hbb6 := Lib.hid (Below.grown (by first | exact bb4.alloc zz4 _ | exact (bb4.alloc zz4 _).drew | exact bb4.drew.alloc zz4 _) hg6 (by first | (simp; omega) | (show _ ≤ (wr.alloc _).heap.size; simp; omega)) (fun gg hgg => ((own_alloc HOWN4.out (.cells #[.int .i64 x, .int .i64 y] 3)).lt gg hgg).1)); have kS6 : w6.cell? ⟨bt, ot + i * 2, none⟩ = some (.int .i64 x) ∧ w6.cell? ⟨bt, ot + i * 2 + 1, none⟩ = some (.int .i64 y) := ⟨(Hbb6.out.cell (p := ⟨bt, ot + i * 2, none⟩) hbu).trans ((bb4.cell (p := ⟨bt, ot + i * 2, none⟩) hbu).symm.trans k1), (Hbb6.out.cell (p := ⟨bt, ot + i * 2 + 1, none⟩) hbu).trans ((bb4.cell (p := ⟨bt, ot + i * 2 + 1, none⟩) hbu).symm.trans k2)⟩; have Hown6 := Lib.hid hown6; clear hown6 hg6))
                    go_wp2_with fail
                    go_roundg (e - (i + 1))
                    case measure => have := HG3.out; omega
                    case rel => exact ⟨i + 1, N + 2, A6, c6, rfl, by omega, by omega, by go_num, rfl, Lib.hid (by have := hN.out; omega), by rw [← HLL2.out]; exact Hown6.out, Hbb6.out⟩
                  · obtain rfl : i = e := by omega
                    have hrow : rNums ((dRows 0 f t).take (k + 1)) = L ++ [(q : Int) - (p : Int), (i : Int) - (q : Int)] ++ cNums ((t.drop q).take (i - q)) := by
                      rw [List.take_succ_eq_append_getElem hkM, rNums_append, ← HL2.out]
                      have h1 := HMk.out
                      rw [List.getElem?_eq_getElem hkM] at h1
                      injection h1 with h1
                      rw [h1, List.append_assoc]
                      congr 1
                      simp only [rNums, List.append_nil]
                      have h2 : ((t.drop q).take (i - q)).length = i - q := by rw [List.length_take, List.length_drop]; omega
                      rw [h2, show ((q - p : Nat) : Int) = (q : Int) - p from by omega, show ((i - q : Nat) : Int) = (i : Int) - q from by omega]
                      rfl
                    have hrl : (rNums ((dRows 0 f t).take (k + 1))).length = N := by
                      have h3 := HOWN4.out.1
                      rw [← hrow, intCells_length] at h3
                      omega
                    have Hrow := Lib.hid hrow
                    have Hrl := Lib.hid hrl
                    have hkb : (dRows 0 f t).length ≤ t.length := (rows_size (t.length + 1) 0 f t).1
                    have hkI : (k : Int) ≤ 100000 := by omega
                    clear hkb
                    clear hrow hrl
                    go_wp2_with fail
                    go_roundg (t.length - i)
                    case measure => have := HG.out; omega
                    case rel =>
                      refine ⟨i, i, k + 1, rNums ((dRows 0 f t).take (k + 1)), A4, c4, rfl, Nat.le_refl _, hEt, rfl, by go_num, by go_num, by rw [Hrl.out], ?_, Lib.hid (by omega), Hdrop, hkM, Lib.hid rfl, bb4⟩
                      rw [Hrl.out, Hrow.out]
                      exact HOWN4.out
    · obtain rfl : q = t.length := by omega
      have hlast := rows_last hrows.out hpq (hst.2.2 (Nat.le_refl _))
      have hkk : k = (dRows 0 f t).length := by omega
      have hLL := hL.out
      rw [hkk, List.take_length] at hLL
      have hLl : L.length ≤ 400000 := by rw [hLL]; exact Nat.le_trans (rows_size (t.length + 1) 0 f t).2 (by omega)
      have hfin : dChg f t = [(k : Int)] ++ L := by rw [hLL, hkk]; rfl
      have HFin := Lib.hid hfin
      have hzz := bb.size
      have HO := Lib.hid hown
      clear hst hlast hkk hLL hfin hsame hrows hL hown
      go_wp2_with (at_builtin; refine wpList_append_sl _ rfl (.tmp 76) (.tmp 77) 88 rfl w.heap.size 3 i0 _ 1 8 Try.underlying88 hi0 hz0 hz1 hz2 rfl (by omega) (.slice (some ⟨wr.heap.size, 0, none⟩) 1 1) 1 (intCells [(k : Int)]) rfl (own_mk (by omega) (Blk.new wr 3 #[.int .i64 k] rfl) (Nat.le_refl _) (by unfold maxLen; omega) rfl rfl) 0 wr.heap.size A L.length c (intCells L) rfl (((Sl.of_own HO.out).more (Nat.zero_le _) (Nat.le_refl _)).alloc (Nat.le_refl _) _) (intCells_one _) (1 + L.length) rfl _ rfl (by unfold maxLen; omega) (by omega) (by simp; omega) ?_; intro A5 c5 w5 hown5 hg5)
      go_ret
      have e1 : (dChg f t).length = 1 + L.length := by rw [HFin.out, List.length_append]; rfl
      refine ⟨A5, c5, by rw [e1]; rfl, ?_, (bb.alloc hzz _).grown hg5 (by simp; omega) (fun k e => by cases e; exact hzz)⟩
      rw [e1, HFin.out, intCells_append]
      exact hown5
end
end Go.Proofs.Ytfeeincglijmjaa
