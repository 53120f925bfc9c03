/- Texts of this seat, one behind the other. -/
import Derived.Test.YtfeeincglijmjaaSC
import Derived.Test.YtfeeincglijmjaaZB5
import Derived.Deep.RegionHeld3
import Derived.Deep.DeepCutAuto
namespace Go.Proofs.Ytfeeincglijmjaa
open Go.RowKit
set_option linter.unusedVariables false
set_option linter.unusedSimpArgs false
attribute [local go_sem ↓] Go.wp_at_zero Go.wp_at_succ

set_option maxHeartbeats 16000000 in
set_option maxRecDepth 100000 in
theorem rsame_yes {up up2 : Nat} {A A2 : Option Addr} {n c n2 c2 : Nat} {l l2 : List Shn} {w : World} (hr : Shs w up A n c l) (hup : up ≤ w.heap.size) (hr2 : Shs w up2 A2 n2 c2 l2) (hup2 : up2 ≤ w.heap.size) (hn : n ≤ 1000) (hp : l.map Shn.p = l2.map Shn.p) :
    Calls Try.prog 35 #[.slice A n c, .slice A2 n2 c2] w fun e w' => e = .returned (.bool true) ∧ Below w.heap.size w w' := by
  have hlen := hr.len
  have hlen2 := hr2.len
  have hll : l.length = l2.length := by have := congrArg List.length hp; simpa using this
  obtain rfl : n2 = n := by omega
  have hnl : n2 ≤ l.length := by omega
  have hnl2 : n2 ≤ l2.length := by omega
  have HR := Lib.hid hr
  have HR2 := Lib.hid hr2
  have HP := Lib.hid hp
  have hlt : l.length ≤ n2 := by omega
  have hlt2 : l2.length ≤ n2 := by omega
  clear hr hr2 hp hlen hlen2 hll
  go_enter Try.func35, Try.ntmps35
  go_wp2_with fail
  go_loopg [5] n2 (fun gh s5 wr => ∃ (i : Nat), gh = n2 - i ∧ i ≤ n2 ∧ s5 = .int .i64 i ∧ Below w.heap.size w wr)
  case atStart => exact ⟨0, by omega, by omega, rfl, Below.refl _ _⟩
  case round =>
    obtain ⟨i, hgm, hi, rfl, bb⟩ := hrel
    have z0 := bb.size
    have HGM := Lib.hid hgm
    clear hgm
    by_cases h : i < n2
    · have hO := HR.out.below bb hup
      have hO2 := HR2.out.below bb hup2
      obtain ⟨b, o, rfl, hgu, hc⟩ := hO.cell (by omega)
      obtain ⟨b2, o2, rfl, hgu2, hc2⟩ := hO2.cell (by omega)
      have hil : i < l.length := by omega
      have hil2 : i < l2.length := by omega
      have hc := hc i hil
      have hc2 := hc2 i hil2
      have hxy : l[i].p = l2[i].p := by
        have h1 : (l.map Shn.p)[i]? = (l2.map Shn.p)[i]? := by rw [HP.out]
        rw [List.getElem?_map, List.getElem?_map, List.getElem?_eq_getElem hil, List.getElem?_eq_getElem hil2] at h1
        simpa using h1
      have hok := hO.ok l[i] (List.getElem_mem hil)
      have hok2 := hO2.ok l2[i] (List.getElem_mem hil2)
      have hiI : (i : Int) < n2 := by omega
      clear hO hO2
      generalize l[i] = x at *
      generalize l2[i] = y at *
      have hnum : y.num = x.num := congrArg Prod.fst hxy.symm
      have hscr : x.s = y.s := congrArg Prod.snd hxy
      have HC := Lib.hid (fun W (q : Below wr.heap.size wr W) => by
        have := same_any (hok.below q (by omega)).1 (by have := q.size; omega) (hok2.below q (by omega)).1 (by have := q.size; omega) hok.2 hok2.2
        rw [gSame_iff.2 hscr] at this
        exact this)
      have HS := Lib.hid (fun W (q : Below wr.heap.size wr W) => And.intro (range_cells (range_below hc q (by omega))) (range_cells (range_below hc2 q (by omega))))
      have ab0 := addr_add b (o + i * 17)
      have ab1 := addr_add b (o + i * 17 + 1)
      have ab2 := addr_add b2 (o2 + i * 17)
      have ab3 := addr_add b2 (o2 + i * 17 + 1)
      have HN := Lib.hid hnum
      have b00 : Below wr.heap.size wr wr.drew := (Below.refl _ _).drew
      clear hok hok2 hc hc2 hxy hscr hnum
      go_upto_region 6 with fail
      go_region_held3 (fun w' : World => (w'.cell? ⟨b, o + i * 17, none⟩ = some (.int .i64 x.num) ∧ w'.cell? ⟨b, o + i * 17 + 1, none⟩ = some (.int .i64 x.s.W) ∧ w'.cell? ⟨b, o + i * 17 + 2, none⟩ = some (.int .i64 x.s.H) ∧ w'.cell? ⟨b, o + i * 17 + 3, none⟩ = some (.slice x.C x.s.cs.length x.cc) ∧ w'.cell? ⟨b, o + i * 17 + 4, none⟩ = some (.int .i64 x.s.X) ∧ w'.cell? ⟨b, o + i * 17 + 5, none⟩ = some (.int .i64 x.s.Y) ∧ w'.cell? ⟨b, o + i * 17 + 6, none⟩ = some (.int .i64 x.s.At) ∧ w'.cell? ⟨b, o + i * 17 + 7, none⟩ = some (.int .i64 x.s.Tp) ∧ w'.cell? ⟨b, o + i * 17 + 8, none⟩ = some (.int .i64 x.s.Bt) ∧ w'.cell? ⟨b, o + i * 17 + 9, none⟩ = some (.bool x.s.wr) ∧ w'.cell? ⟨b, o + i * 17 + 10, none⟩ = some (.bool x.s.au) ∧ w'.cell? ⟨b, o + i * 17 + 11, none⟩ = some (.bool x.s.hi) ∧ w'.cell? ⟨b, o + i * 17 + 12, none⟩ = some (.bool x.s.al) ∧ w'.cell? ⟨b, o + i * 17 + 13, none⟩ = some (.int .i64 x.s.s0) ∧ w'.cell? ⟨b, o + i * 17 + 14, none⟩ = some (.int .i64 x.s.s1) ∧ w'.cell? ⟨b, o + i * 17 + 15, none⟩ = some (.int .i64 x.s.s2) ∧ w'.cell? ⟨b, o + i * 17 + 16, none⟩ = some (.slice x.M x.s.ms.length x.cm)) ∧ (w'.cell? ⟨b2, o2 + i * 17, none⟩ = some (.int .i64 y.num) ∧ w'.cell? ⟨b2, o2 + i * 17 + 1, none⟩ = some (.int .i64 y.s.W) ∧ w'.cell? ⟨b2, o2 + i * 17 + 2, none⟩ = some (.int .i64 y.s.H) ∧ w'.cell? ⟨b2, o2 + i * 17 + 3, none⟩ = some (.slice y.C y.s.cs.length y.cc) ∧ w'.cell? ⟨b2, o2 + i * 17 + 4, none⟩ = some (.int .i64 y.s.X) ∧ w'.cell? ⟨b2, o2 + i * 17 + 5, none⟩ = some (.int .i64 y.s.Y) ∧ w'.cell? ⟨b2, o2 + i * 17 + 6, none⟩ = some (.int .i64 y.s.At) ∧ w'.cell? ⟨b2, o2 + i * 17 + 7, none⟩ = some (.int .i64 y.s.Tp) ∧ w'.cell? ⟨b2, o2 + i * 17 + 8, none⟩ = some (.int .i64 y.s.Bt) ∧ w'.cell? ⟨b2, o2 + i * 17 + 9, none⟩ = some (.bool y.s.wr) ∧ w'.cell? ⟨b2, o2 + i * 17 + 10, none⟩ = some (.bool y.s.au) ∧ w'.cell? ⟨b2, o2 + i * 17 + 11, none⟩ = some (.bool y.s.hi) ∧ w'.cell? ⟨b2, o2 + i * 17 + 12, none⟩ = some (.bool y.s.al) ∧ w'.cell? ⟨b2, o2 + i * 17 + 13, none⟩ = some (.int .i64 y.s.s0) ∧ w'.cell? ⟨b2, o2 + i * 17 + 14, none⟩ = some (.int .i64 y.s.s1) ∧ w'.cell? ⟨b2, o2 + i * 17 + 15, none⟩ = some (.int .i64 y.s.s2) ∧ w'.cell? ⟨b2, o2 + i * 17 + 16, none⟩ = some (.slice y.M y.s.ms.length y.cm))) (first | exact HS.out _ (Below.refl _ _) | exact HS.out _ b00 | exact HS.out _ b05 | exact HS.out _ b05.drew | go_keep)
        ((first
          | (go_at_call 20; refine (HC.out _ (by first | exact b00 | exact Below.refl _ _)).mono ?_; rintro e w5 ⟨rfl, hb5⟩; have b05 : Below wr.heap.size wr w5 := (by first | exact Below.trans b00 hb5 | exact hb5))))
      obtain ⟨⟨e0, -⟩, ⟨f0, -⟩⟩ := HS.out _ b05
      rw [HN.out] at f0
      have hne : (x.num != y.num) = false := by rw [HN.out]; simp
      have hne2 : (x.num == y.num) = true := by rw [HN.out]; simp
      have bb5 := bb.trans (b05.mono z0)
      have z5 := b05.size
      clear HS HC ab1 ab3 b00 hb5
      go_wp2_with fail
      go_quiet (skip)
      go_wp2_with fail
      go_roundg (n2 - (i + 1))
      case measure => have := HGM.out; omega
      case rel => exact ⟨i + 1, rfl, by omega, by go_num, by first | exact bb5 | exact below_drewN bb5 _⟩
    · obtain rfl : i = n2 := by omega
      go_wp2_with fail
      go_ret
      exact ⟨rfl, bb⟩
end Go.Proofs.Ytfeeincglijmjaa
