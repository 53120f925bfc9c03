/- Texts of this seat, one behind the other. -/
import Derived.Test.YtfeeincglijmjaaSC
import Derived.Test.YtfeeincglijmjaaZB5
import Derived.Deep.RegionHeld3
import Derived.Deep.DeepCutAuto
namespace Go.Proofs.Ytfeeincglijmjaa
open Go.RowKit
set_option linter.unusedVariables false
set_option linter.unusedSimpArgs false
attribute [local go_sem ↓] Go.wp_at_zero Go.wp_at_succ

theorem blk_cells {w : World} {g : Nat} {x : Shn} (h : Blk w g 39 x.v) : w.cell? ⟨g, 0, none⟩ = some (.int .i64 x.num) ∧ w.cell? ⟨g, 1, none⟩ = some (.int .i64 x.s.W) ∧ w.cell? ⟨g, 2, none⟩ = some (.int .i64 x.s.H) ∧ w.cell? ⟨g, 3, none⟩ = some (.slice x.C x.s.cs.length x.cc) ∧ w.cell? ⟨g, 4, none⟩ = some (.int .i64 x.s.X) ∧ w.cell? ⟨g, 5, none⟩ = some (.int .i64 x.s.Y) ∧ w.cell? ⟨g, 6, none⟩ = some (.int .i64 x.s.At) ∧ w.cell? ⟨g, 7, none⟩ = some (.int .i64 x.s.Tp) ∧ w.cell? ⟨g, 8, none⟩ = some (.int .i64 x.s.Bt) ∧ w.cell? ⟨g, 9, none⟩ = some (.bool x.s.wr) ∧ w.cell? ⟨g, 10, none⟩ = some (.bool x.s.au) ∧ w.cell? ⟨g, 11, none⟩ = some (.bool x.s.hi) ∧ w.cell? ⟨g, 12, none⟩ = some (.bool x.s.al) ∧ w.cell? ⟨g, 13, none⟩ = some (.int .i64 x.s.s0) ∧ w.cell? ⟨g, 14, none⟩ = some (.int .i64 x.s.s1) ∧ w.cell? ⟨g, 15, none⟩ = some (.int .i64 x.s.s2) ∧ w.cell? ⟨g, 16, none⟩ = some (.slice x.M x.s.ms.length x.cm) := by
  have r := h.rules.1
  exact ⟨r 0, r 1, r 2, r 3, r 4, r 5, r 6, r 7, r 8, r 9, r 10, r 11, r 12, r 13, r 14, r 15, r 16⟩
set_option maxHeartbeats 16000000 in
set_option maxRecDepth 100000 in
theorem known_yes {up : Nat} {A : Option Addr} {n c : Nat} {l : List Shn} {x : Shn} {w : World} (hr : Shs w up A n c l) (hup : up ≤ w.heap.size) (hn : n ≤ 1000) (hx : x.Ok w up) (hm : ∃ y ∈ l, y.p = x.p) :
    Calls Try.prog 19 #[.slice A n c, .agg x.v] w fun e w' => e = .returned (.bool true) ∧ Below w.heap.size w w' := by
  have hlen := hr.len
  subst hlen
  have bb := (Below.refl w.heap.size w).alloc (Nat.le_refl _) (.cells x.v 39)
  have kb := Blk.new w 39 x.v rfl
  have hr := hr.below bb hup
  have hx := hx.below bb hup
  have hz : w.heap.size + 1 ≤ (w.alloc (.cells x.v 39)).heap.size := by rw [World.size_alloc]; omega
  have HR := Lib.hid hr
  have HX := Lib.hid hx
  have HM := Lib.hid hm
  have KB := Lib.hid kb
  have hs : x.v.size = 17 := rfl
  clear hr hx hm kb
  go_enter Try.func19, Try.ntmps19
  go_upto_region 1 with fail
  generalize w.alloc (.cells x.v 39) = w0 at *
  go_wp2_with fail
  go_loopg [5] l.length (fun gh s5 wr => ∃ (i : Nat), gh = l.length - i ∧ i ≤ l.length ∧ s5 = .int .i64 i ∧ Below w.heap.size w wr ∧ Below w0.heap.size w0 wr ∧ Hid (∀ j (h : j < l.length), j < i → l[j].p ≠ x.p))
  case atStart => exact ⟨0, by omega, by omega, rfl, bb, Below.refl _ _, Lib.hid (fun _ _ h => absurd h (by omega))⟩
  case round =>
    obtain ⟨i, hgm, hi, rfl, bb, b0, hno⟩ := hrel
    have z0 := b0.size
    have HGM := Lib.hid hgm
    clear hgm
    by_cases h : i < l.length
    · have hO := HR.out.below b0 (by omega)
      have hok2 := HX.out.below b0 (by omega)
      obtain ⟨b, o, rfl, hgu, hc⟩ := hO.cell (by omega)
      have hc := hc i h
      have hok := hO.ok l[i] (List.getElem_mem h)
      have hiI : (i : Int) < l.length := by omega
      have HNo := Lib.hid (show ¬ (l[i].num = x.num ∧ l[i].s = x.s) → ∀ j (h : j < l.length), j < i + 1 → l[j].p ≠ x.p by
        intro h1 j hj hj1
        by_cases hji : j < i
        · exact hno.out j hj hji
        · obtain rfl : j = i := by omega
          intro h2
          exact h1 ⟨congrArg Prod.fst h2, congrArg Prod.snd h2⟩)
      clear hO hno
      generalize l[i] = y at *
      have HC := Lib.hid (fun W (q : Below wr.heap.size wr W) => same_any (hok.below q (by omega)).1 (by have := q.size; omega) (hok2.below q (by omega)).1 (by have := q.size; omega) hok.2 hok2.2)
      have HS := Lib.hid (fun W (q : Below wr.heap.size wr W) => And.intro (range_cells (range_below hc q (by omega))) (blk_cells ((KB.out.below b0 (by omega)).below q (by omega))))
      have ab0 := addr_add b (o + i * 17)
      have ab1 := addr_add b (o + i * 17 + 1)
      have ab2 := addr_add w.heap.size 0
      have ab3 := addr_add w.heap.size (0 + 1)
      have ab4 := addr_add w.heap.size 1
      have b00 : Below wr.heap.size wr wr.drew := (Below.refl _ _).drew
      clear hok hok2 hc
      go_upto_region 4 with fail
      go_region_held3 (fun w' : World => (w'.cell? ⟨b, o + i * 17, none⟩ = some (.int .i64 y.num) ∧ w'.cell? ⟨b, o + i * 17 + 1, none⟩ = some (.int .i64 y.s.W) ∧ w'.cell? ⟨b, o + i * 17 + 2, none⟩ = some (.int .i64 y.s.H) ∧ w'.cell? ⟨b, o + i * 17 + 3, none⟩ = some (.slice y.C y.s.cs.length y.cc) ∧ w'.cell? ⟨b, o + i * 17 + 4, none⟩ = some (.int .i64 y.s.X) ∧ w'.cell? ⟨b, o + i * 17 + 5, none⟩ = some (.int .i64 y.s.Y) ∧ w'.cell? ⟨b, o + i * 17 + 6, none⟩ = some (.int .i64 y.s.At) ∧ w'.cell? ⟨b, o + i * 17 + 7, none⟩ = some (.int .i64 y.s.Tp) ∧ w'.cell? ⟨b, o + i * 17 + 8, none⟩ = some (.int .i64 y.s.Bt) ∧ w'.cell? ⟨b, o + i * 17 + 9, none⟩ = some (.bool y.s.wr) ∧ w'.cell? ⟨b, o + i * 17 + 10, none⟩ = some (.bool y.s.au) ∧ w'.cell? ⟨b, o + i * 17 + 11, none⟩ = some (.bool y.s.hi) ∧ w'.cell? ⟨b, o + i * 17 + 12, none⟩ = some (.bool y.s.al) ∧ w'.cell? ⟨b, o + i * 17 + 13, none⟩ = some (.int .i64 y.s.s0) ∧ w'.cell? ⟨b, o + i * 17 + 14, none⟩ = some (.int .i64 y.s.s1) ∧ w'.cell? ⟨b, o + i * 17 + 15, none⟩ = some (.int .i64 y.s.s2) ∧ w'.cell? ⟨b, o + i * 17 + 16, none⟩ = some (.slice y.M y.s.ms.length y.cm)) ∧ (w'.cell? ⟨w.heap.size, 0, none⟩ = some (.int .i64 x.num) ∧ w'.cell? ⟨w.heap.size, 1, none⟩ = some (.int .i64 x.s.W) ∧ w'.cell? ⟨w.heap.size, 2, none⟩ = some (.int .i64 x.s.H) ∧ w'.cell? ⟨w.heap.size, 3, none⟩ = some (.slice x.C x.s.cs.length x.cc) ∧ w'.cell? ⟨w.heap.size, 4, none⟩ = some (.int .i64 x.s.X) ∧ w'.cell? ⟨w.heap.size, 5, none⟩ = some (.int .i64 x.s.Y) ∧ w'.cell? ⟨w.heap.size, 6, none⟩ = some (.int .i64 x.s.At) ∧ w'.cell? ⟨w.heap.size, 7, none⟩ = some (.int .i64 x.s.Tp) ∧ w'.cell? ⟨w.heap.size, 8, none⟩ = some (.int .i64 x.s.Bt) ∧ w'.cell? ⟨w.heap.size, 9, none⟩ = some (.bool x.s.wr) ∧ w'.cell? ⟨w.heap.size, 10, none⟩ = some (.bool x.s.au) ∧ w'.cell? ⟨w.heap.size, 11, none⟩ = some (.bool x.s.hi) ∧ w'.cell? ⟨w.heap.size, 12, none⟩ = some (.bool x.s.al) ∧ w'.cell? ⟨w.heap.size, 13, none⟩ = some (.int .i64 x.s.s0) ∧ w'.cell? ⟨w.heap.size, 14, none⟩ = some (.int .i64 x.s.s1) ∧ w'.cell? ⟨w.heap.size, 15, none⟩ = some (.int .i64 x.s.s2) ∧ w'.cell? ⟨w.heap.size, 16, none⟩ = some (.slice x.M x.s.ms.length x.cm))) (first | exact HS.out _ (Below.refl _ _) | exact HS.out _ b00 | exact HS.out _ b05 | exact HS.out _ b05.drew | go_keep)
        ((first
          | (go_at_call 20; refine (HC.out _ (by first | exact b00 | exact Below.refl _ _)).mono ?_; rintro e w5 ⟨rfl, hb5⟩; have b05 : Below wr.heap.size wr w5 := (by first | exact Below.trans b00 hb5 | exact hb5))))
      obtain ⟨⟨e0, -⟩, ⟨f0, -⟩⟩ := HS.out _ b05
      have bb5 := bb.trans (b05.mono bb.size)
      have b05' := b0.trans (b05.mono z0)
      have z5 := b05.size
      have Hq := Lib.hid (gSame_iff (s := y.s) (t := x.s))
      clear HS HC ab1 ab3 ab4 b00 hb5
      generalize gSame y.s x.s = q at *
      by_cases hnum : y.num = x.num
      · have hne : (y.num == x.num) = true := by rw [hnum]; simp
        have hne2 : decide (y.num = x.num) = true := by simpa using hnum
        have Hnum := Lib.hid hnum
        clear hnum
        cases q
        · have HNo2 := Lib.hid (HNo.out (fun h => by have := Hq.out.2 h.2; cases this))
          clear HNo
          go_wp2_with fail
          go_quiet (skip)
          go_wp2_with fail
          go_roundg (l.length - (i + 1))
          case measure => have := HGM.out; omega
          case rel => exact ⟨i + 1, rfl, by omega, by go_num, by first | exact bb5 | exact below_drewN bb5 _, by first | exact b05' | exact below_drewN b05' _, HNo2⟩
        · clear HNo
          go_wp2_with fail
          go_quiet (skip)
          go_wp2_with fail
          go_ret
          exact ⟨rfl, by first | exact bb5 | exact below_drewN bb5 _⟩
      · have hne : (y.num == x.num) = false := by simpa using hnum
        have hne2 : decide (y.num = x.num) = false := by simpa using hnum
        have HNo2 := Lib.hid (HNo.out (fun h => hnum h.1))
        clear HNo hnum
        go_wp2_with fail
        go_quiet (skip)
        go_wp2_with fail
        go_roundg (l.length - (i + 1))
        case measure => have := HGM.out; omega
        case rel => exact ⟨i + 1, rfl, by omega, by go_num, by first | exact bb5 | exact below_drewN bb5 _, by first | exact b05' | exact below_drewN b05' _, HNo2⟩
    · exfalso
      obtain ⟨y, hy, hyx⟩ := HM.out
      obtain ⟨j, hj, rfl⟩ := List.getElem_of_mem hy
      exact hno.out j hj (by omega) hyx

/-- At most ten screens of at most two hundred places. -/
def sFew (l : List (Int × Scr)) : Bool := decide (l.length ≤ 10) && l.all fun x => decide (x.2.cs.length ≤ 200) && decide (x.2.ms.length ≤ 200)
set_option maxHeartbeats 16000000 in
set_option maxRecDepth 100000 in
theorem few20_any {up : Nat} {A : Option Addr} {n c : Nat} {l : List Shn} {w : World} (hr : Shs w up A n c l) (hup : up ≤ w.heap.size) (hn : n ≤ 9223372036854775807) :
    Calls Try.prog 31 #[.slice A n c] w fun e w' => e = .returned (.bool (sFew (l.map Shn.p))) ∧ w' = w := by
  have hlen := hr.len
  subst hlen
  have HR := Lib.hid hr
  obtain ⟨R, hR⟩ : ∃ R, R = sFew (l.map Shn.p) := ⟨_, rfl⟩
  rw [← hR]
  unfold sFew at hR
  rw [List.length_map] at hR
  by_cases h10 : 10 < l.length
  · have hf : R = false := by rw [hR, decide_eq_false (by omega)]; rfl
    have hI : 10 < (l.length : Int) := by omega
    clear hR hr
    go_enter Try.func31, Try.ntmps31
    go_wp2_with fail
    go_ret
    exact ⟨by first | rfl | (rw [hf]; rfl), rfl⟩
  · rw [decide_eq_true (by omega), Bool.true_and] at hR
    have HRR := Lib.hid hR
    have hI : ¬ (10 < (l.length : Int)) := by omega
    clear hR hr
    go_enter Try.func31, Try.ntmps31
    go_wp2_with fail
    go_loopg [3] l.length (fun gh s3 wr => ∃ i : Nat, gh = l.length - i ∧ i ≤ l.length ∧ s3 = .int .i64 i ∧ wr = w ∧ Hid (∀ j (h : j < l.length), j < i → l[j].s.cs.length ≤ 200 ∧ l[j].s.ms.length ≤ 200))
    case atStart => exact ⟨0, by omega, by omega, rfl, rfl, Lib.hid (fun _ _ h => absurd h (by omega))⟩
    case round =>
      obtain ⟨i, hgm, hi, rfl, rfl, hno⟩ := hrel
      have HGM := Lib.hid hgm
      clear hgm
      by_cases h : i < l.length
      · obtain ⟨b, o, rfl, hgu, hc⟩ := HR.out.cell (by omega)
        have hc := hc i h
        have hiI : (i : Int) < l.length := by omega
        have hlen := (HR.out.ok l[i] (List.getElem_mem h)).2
        have hlen1 := hlen.1
        have hlen2 := hlen.2
        have HF := Lib.hid (show ¬ (l[i].s.cs.length ≤ 200 ∧ l[i].s.ms.length ≤ 200) → R = false by
          intro hbad
          rw [HRR.out, List.all_eq_false]
          refine ⟨l[i].p, List.mem_map_of_mem (List.getElem_mem h), ?_⟩
          intro hh
          apply hbad
          simp only [Shn.p, Bool.and_eq_true, decide_eq_true_eq] at hh
          exact ⟨of_decide_eq_true hh.1, of_decide_eq_true hh.2⟩)
        have HN := Lib.hid (show l[i].s.cs.length ≤ 200 → l[i].s.ms.length ≤ 200 → ∀ j (h : j < l.length), j < i + 1 → l[j].s.cs.length ≤ 200 ∧ l[j].s.ms.length ≤ 200 by
          intro h1 h2 j hj hj1
          by_cases hji : j < i
          · exact hno.out j hj hji
          · obtain rfl : j = i := by omega
            exact ⟨h1, h2⟩)
        clear hno hlen
        generalize l[i] = y at *
        obtain ⟨-, -, -, c3, -, -, -, -, -, -, -, -, -, -, -, -, c16⟩ := range_cells hc
        have ab1 := addr_add b (o + i * 17 + 1)
        clear hc
        by_cases h1 : y.s.cs.length ≤ 200
        · have h1I : ¬ (200 < (y.s.cs.length : Int)) := by omega
          by_cases h2 : y.s.ms.length ≤ 200
          · have h2I : ¬ (200 < (y.s.ms.length : Int)) := by omega
            have HN2 := Lib.hid (HN.out h1 h2)
            clear HF HN
            go_wp2_with fail
            go_roundg (l.length - (i + 1))
            case measure => have := HGM.out; omega
            case rel => exact ⟨i + 1, rfl, by omega, by go_num, rfl, HN2⟩
          · have h2I : 200 < (y.s.ms.length : Int) := by omega
            have hf := HF.out (fun h => h2 h.2)
            clear HF HN
            go_wp2_with fail
            go_ret
            exact ⟨by first | rfl | (rw [hf]; rfl), rfl⟩
        · have h1I : 200 < (y.s.cs.length : Int) := by omega
          have hf := HF.out (fun h => h1 h.1)
          clear HF HN
          go_wp2_with fail
          go_ret
          exact ⟨by first | rfl | (rw [hf]; rfl), rfl⟩
      · obtain rfl : i = l.length := by omega
        have hf : R = true := by
          rw [HRR.out, List.all_eq_true]
          intro p hp
          obtain ⟨y, hy, rfl⟩ := List.mem_map.1 hp
          obtain ⟨j, hj, rfl⟩ := List.getElem_of_mem hy
          have := hno.out j hj hj
          simp only [Shn.p, Bool.and_eq_true, decide_eq_true_eq]
          exact ⟨decide_eq_true this.1, decide_eq_true this.2⟩
        clear hno HRR
        go_wp2_with fail
        go_ret
        exact ⟨by first | rfl | (rw [hf]; rfl), rfl⟩
end Go.Proofs.Ytfeeincglijmjaa
