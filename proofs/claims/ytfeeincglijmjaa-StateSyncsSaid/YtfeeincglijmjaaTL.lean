/- The walk of StateGrows. -/
import Derived.Test.YtfeeincglijmjaaTK
import Derived.Test.YtfeeincglijmjaaLift5
import Derived.Deep.DeepCutAuto
import Derived.Deep.RegionHeld3
namespace Go.Proofs.Ytfeeincglijmjaa
open Go.RowKit
set_option linter.unusedVariables false
set_option linter.unusedSimpArgs false
attribute [local go_sem ↓] Go.wp_at_zero Go.wp_at_succ

theorem range_cells16 {w : World} {b p : Nat} {x : Scn} (h : w.rangeAt b p x.v.toList) : w.cell? ⟨b, p, none⟩ = some (.int .i64 x.s.W) ∧ w.cell? ⟨b, p + 1, none⟩ = some (.int .i64 x.s.H) ∧ w.cell? ⟨b, p + 2, none⟩ = some (.slice x.C x.s.cs.length x.cc) ∧ w.cell? ⟨b, p + 3, none⟩ = some (.int .i64 x.s.X) ∧ w.cell? ⟨b, p + 4, none⟩ = some (.int .i64 x.s.Y) ∧ w.cell? ⟨b, p + 5, none⟩ = some (.int .i64 x.s.At) ∧ w.cell? ⟨b, p + 6, none⟩ = some (.int .i64 x.s.Tp) ∧ w.cell? ⟨b, p + 7, none⟩ = some (.int .i64 x.s.Bt) ∧ w.cell? ⟨b, p + 8, none⟩ = some (.bool x.s.wr) ∧ w.cell? ⟨b, p + 9, none⟩ = some (.bool x.s.au) ∧ w.cell? ⟨b, p + 10, none⟩ = some (.bool x.s.hi) ∧ w.cell? ⟨b, p + 11, none⟩ = some (.bool x.s.al) ∧ w.cell? ⟨b, p + 12, none⟩ = some (.int .i64 x.s.s0) ∧ w.cell? ⟨b, p + 13, none⟩ = some (.int .i64 x.s.s1) ∧ w.cell? ⟨b, p + 14, none⟩ = some (.int .i64 x.s.s2) ∧ w.cell? ⟨b, p + 15, none⟩ = some (.slice x.M x.s.ms.length x.cm) :=
  ⟨h 0 _ rfl, h 1 _ rfl, h 2 _ rfl, h 3 _ rfl, h 4 _ rfl, h 5 _ rfl, h 6 _ rfl, h 7 _ rfl, h 8 _ rfl, h 9 _ rfl, h 10 _ rfl, h 11 _ rfl, h 12 _ rfl, h 13 _ rfl, h 14 _ rfl, h 15 _ rfl⟩
/-- Is a screen one that is pushed? -/
def sTake (s : Scr) : Bool := decide (s.cs.length ≤ 200) && decide (s.ms.length ≤ 200) && gOk s
/-- The last one, and the first one, of a list of shown screens. -/
theorem shs_ends {w : World} {up n c : Nat} {A : Option Addr} {K : List Shn} (h : Shs w up A n c K) (hn : 0 < n) : ∃ (b o k : Nat) (x y : Shn), A = some ⟨b, o, none⟩ ∧ b < up ∧ n = k + 1 ∧ K.getLast? = some x ∧ K.head? = some y ∧ w.rangeAt b (o + k * 17) x.v.toList ∧ w.rangeAt b o y.v.toList ∧ (∀ i (hi : i < K.length), w.rangeAt b (o + i * 17) K[i].v.toList) ∧ x ∈ K ∧ y ∈ K := by
  have hl := h.len
  subst hl
  obtain ⟨b, o, rfl, hb, hc⟩ := h.cell hn
  obtain ⟨k, hk⟩ : ∃ k, K.length = k + 1 := ⟨K.length - 1, by omega⟩
  have h0 := hc 0 hn
  rw [Nat.zero_mul, Nat.add_zero] at h0
  refine ⟨b, o, k, K[k]'(by omega), K[0], rfl, hb, hk, ?_, ?_, hc k (by omega), h0, hc, List.getElem_mem _, List.getElem_mem _⟩
  · rw [List.getLast?_eq_getElem?]
    simp only [hk, Nat.add_sub_cancel]
    exact List.getElem?_eq_getElem (by omega)
  · cases K with
    | nil => exact absurd hn (by simp)
    | cons a r => rfl
theorem map_last {K : List Shn} {P : List (Int × Scr)} {x : Shn} {q : Int × Scr} (h : K.map Shn.p = P) (hx : K.getLast? = some x) (hq : P.getLast? = some q) : x.num = q.1 ∧ x.s = q.2 := by
  rw [← h, List.getLast?_map, hx] at hq
  injection hq with hq
  subst hq
  exact ⟨rfl, rfl⟩
theorem map_head {K : List Shn} {P : List (Int × Scr)} {x : Shn} {q : Int × Scr} (h : K.map Shn.p = P) (hx : K.head? = some x) (hq : P.head? = some q) : x.num = q.1 ∧ x.s = q.2 := by
  rw [← h, List.head?_map, hx] at hq
  injection hq with hq
  subst hq
  exact ⟨rfl, rfl⟩
theorem byte_at {lo up : Nat} {A : Option Addr} {n c : Nat} {bs : List UInt8} {w : World} (h : Sl w lo up 1 A n c (byteCells bs)) {i : Nat} (hi : i < n) : ∃ (b o : Nat) (v : Nat), A = some ⟨b, o, none⟩ ∧ w.cell? ⟨b, o + i, none⟩ = some (.int .u8 (v : Int)) ∧ v < 256 := by
  obtain ⟨b, o, rfl, _, _, hc⟩ := h.at_ (by omega)
  have hl : n = bs.length := by have := h.len; rw [byteCells_length] at this; omega
  refine ⟨b, o, (bs[i]'(by omega)).toNat, rfl, ?_, UInt8.toNat_lt _⟩
  rw [hc i (by rw [byteCells_length]; omega), byteCells_at (by omega)]

set_option maxHeartbeats 16000000 in
set_option maxRecDepth 100000 in
theorem grows_any {up lo3 up3 : Nat} {A A3 : Option Addr} {n c n3 c3 : Nat} {l : List Scn} {bs : List UInt8} {x0 x1 : Int} {w : World} (hr : Scs w up A n c l) (hup : up ≤ w.heap.size) (hn : n ≤ 9223372036854775807) (hb : Sl w lo3 up3 1 A3 n3 c3 (byteCells bs)) (hup3 : up3 ≤ w.heap.size) (hn3 : n3 ≤ 9223372036854775807) (h0 : 0 ≤ x0 ∧ x0 ≤ 255) (h1 : 0 ≤ x1 ∧ x1 ≤ 255) :
    Calls Try.prog 11 #[.int .u8 x0, .int .u8 x1, .slice A n c, .slice A3 n3 c3] w fun e w' => e = .returned (.bool true) ∧ Below w.heap.size w w' := by
  have HA := Lib.hid (awake12_any w)
  have hlen := hr.len
  subst hlen
  have HR := Lib.hid (fun W (b : Below w.heap.size w W) => hr.below b hup)
  have HBy := Lib.hid (fun W (b : Below w.heap.size w W) => hb.below b hup3)
  obtain ⟨h00, h01⟩ := h0
  obtain ⟨h10, h11⟩ := h1
  obtain ⟨a, ha⟩ : ∃ a, a = Int.tmod x0 9 := ⟨_, rfl⟩
  obtain ⟨b, hbb⟩ : ∃ b, b = Int.tmod x1 5 := ⟨_, rfl⟩
  have ha2 : 0 ≤ a ∧ a ≤ 8 := by rw [ha, Int.tmod_eq_emod_of_nonneg h00]; omega
  have hb2 : 0 ≤ b ∧ b ≤ 4 := by rw [hbb, Int.tmod_eq_emod_of_nonneg h10]; omega
  have ha3 := ha.symm
  have hb3 := hbb.symm
  obtain ⟨ha4, ha5⟩ := ha2
  obtain ⟨hb4, hb5⟩ := hb2
  clear ha hbb hr hb
  have hin : (inB (1 + a) 1 64 && inB (1 + b) 1 64) = true := by rw [Bool.and_eq_true, inB_true, inB_true]; omega
  have hgk := new_gok hin
  have HB := Lib.hid (fun W => begin_yes (w := W) hin (by have := gOk_len hgk; unfold Scr.Len; omega))
  obtain ⟨s0, hs0⟩ : ∃ s, s = newScr (1 + a) (1 + b) := ⟨_, rfl⟩
  rw [← hs0] at hgk HB
  have Hgk := Lib.hid hgk
  clear hs0 hgk hin
  obtain ⟨N, hN⟩ : ∃ N, N = min l.length 30 := ⟨_, rfl⟩
  go_enter Try.func11, Try.ntmps11
  go_wp2_with fail
  refine HA.out.mono ?_
  rintro e w1 ⟨rfl, b1⟩
  go_wp2_with fail
  refine (HB.out _).mono ?_
  rintro e w2 ⟨Am, cm, K, rfl, hKp, o2, ok2, b2⟩
  have hKl : K.length = 1 := klen hKp
  have S2 := shs_of o2 ok2 rfl
  have bb2 := b1.trans (b2.mono b1.size)
  have HI : Hid (sCheck (K.map Shn.p) = true ∧ ∃ x, (K.map Shn.p).getLast? = some x ∧ x.1 ≤ ((0 : Nat) : Int)) := Lib.hid (by
    rw [hKp]
    refine ⟨sCheck_mk ?_ (by simp) (by simp), _, rfl, Int.le_refl _⟩
    simp [sOkF, Hgk.out])
  have hKI : ((K.length : Int) != 1) = false := by rw [hKl]; rfl
  clear b1 b2 o2 ok2 HA HB hKp
  have hzz : w.heap.size ≤ w2.heap.size := bb2.size
  go_upto_region 5 with fail
  clear hKI
  go_wp2_with fail
  go_loopg [10, 12] N (fun gh s10 s12 wr => ∃ (i : Nat) (Am : Option Addr) (cm : Nat) (K : List Shn), gh = N - i ∧ i ≤ N ∧ s12 = .int .i64 i ∧ s10 = .slice Am K.length cm ∧ Shs wr wr.heap.size Am K.length cm K ∧ Hid (sCheck (K.map Shn.p) = true ∧ ∃ x, (K.map Shn.p).getLast? = some x ∧ x.1 ≤ (i : Int)) ∧ Below w.heap.size w wr)
  case atStart => exact ⟨0, Am, cm, K, by omega, Nat.zero_le _, rfl, by rw [hKl], S2, HI, bb2⟩
  case round =>
    clear S2 HI bb2 hKl hzz
    obtain ⟨i, Am, cm, K, hgh, hiN, rfl, rfl, hS, hI, bb⟩ := hrel
    have HG := Lib.hid hgh
    clear hgh
    have z0 := bb.size
    by_cases h : i < N
    · have hil : i < l.length := by omega
      have hi30 : i < 30 := by omega
      have hilI : (i : Int) < l.length := by omega
      have hi30I : (i : Int) < 30 := by omega
      have hRw := HR.out _ bb
      obtain ⟨bl, ol, rfl, hbl, hcl⟩ := hRw.cell (by omega)
      have hci := hcl i hil
      have hyk := hRw.ok l[i] (List.getElem_mem hil)
      have a1 := addr_add bl ol (i * 16)
      generalize l[i] = y at *
      have HCk := check_any hyk.1 (Nat.le_trans hup z0) hyk.2
      have Hci := Lib.hid hci
      have Hyk := Lib.hid hyk
      obtain ⟨k0, k1, k2, k3, k4, k5, k6, k7, k8, k9, k10, k11, k12, k13, k14, k15⟩ := range_cells16 hci
      have ad0 := addr_add bl (ol + i * 16) 0
      have ad1 := addr_add bl (ol + i * 16) 1
      have ad2 := addr_add bl (ol + i * 16) 2
      have ad3 := addr_add bl (ol + i * 16) 3
      have ad4 := addr_add bl (ol + i * 16) 4
      have ad5 := addr_add bl (ol + i * 16) 5
      have ad6 := addr_add bl (ol + i * 16) 6
      have ad7 := addr_add bl (ol + i * 16) 7
      have ad8 := addr_add bl (ol + i * 16) 8
      have ad9 := addr_add bl (ol + i * 16) 9
      have ad10 := addr_add bl (ol + i * 16) 10
      have ad11 := addr_add bl (ol + i * 16) 11
      have ad12 := addr_add bl (ol + i * 16) 12
      have ad13 := addr_add bl (ol + i * 16) 13
      have ad14 := addr_add bl (ol + i * 16) 14
      have ad15 := addr_add bl (ol + i * 16) 15
      have HS := Lib.hid hS
      have Hbb := Lib.hid bb
      unfold Scr.v at HCk
      clear hRw hcl hci hyk hS bb
      go_upto_region 8 with fail
      go_cut [70] (fun s70 wx => ∃ q : Bool, s70 = .bool q ∧ Hid (sTake y.s = !q) ∧ Below wr.heap.size wr wx)
      case first => as_aux_lemma =>
        clear HG HR HBy HS
        by_cases c1 : 200 < y.s.cs.length
        · have c1' : (200 : Int) < (y.s.cs.length : Int) := by omega
          go_wp2_with fail
          go_meet
          exact ⟨true, rfl, Lib.hid (by unfold sTake; simp; omega), Below.refl _ _⟩
        · have c1' : ¬ ((200 : Int) < (y.s.cs.length : Int)) := by omega
          by_cases c2 : 200 < y.s.ms.length
          · have c2' : (200 : Int) < (y.s.ms.length : Int) := by omega
            go_wp2_with fail
            go_meet
            exact ⟨true, rfl, Lib.hid (by unfold sTake; simp; omega), Below.refl _ _⟩
          · have c2' : ¬ ((200 : Int) < (y.s.ms.length : Int)) := by omega
            cases hg : gOk y.s
            · rw [hg] at HCk
              simp only [Bool.false_eq_true, if_false] at HCk
              have Hg := Lib.hid hg
              have HCk := Lib.hid HCk
              clear hg
              go_wp2_with fail
              refine HCk.out.mono ?_
              rintro e w3 ⟨rfl, b3⟩
              go_wp2_with fail
              go_meet
              exact ⟨true, rfl, Lib.hid (by unfold sTake; rw [Hg.out]; simp), b3⟩
            · rw [hg] at HCk
              simp only [if_true] at HCk
              have Hg := Lib.hid hg
              have HCk := Lib.hid HCk
              clear hg
              go_wp2_with fail
              refine HCk.out.mono ?_
              rintro e w3 ⟨rfl, b3⟩
              go_wp2_with fail
              go_meet
              exact ⟨false, rfl, Lib.hid (by unfold sTake; rw [Hg.out]; simp; omega), b3⟩
      case rest => as_aux_lemma =>
        obtain ⟨q, rfl, hq, b3⟩ := hcut
        rename World => w3
        have z3 := b3.size
        have S3 := (HS.out.below b3 (Nat.le_refl _)).more z3
        have bb3 := Hbb.out.trans (b3.mono z0)
        have Hci := Lib.hid (show w3.rangeAt bl (ol + i * 16) y.v.toList from range_below Hci.out b3 (by omega))
        have Hyk := Lib.hid (Hyk.out.below b3 (Nat.le_trans hup z0))
        clear k0 k1 k2 k3 k4 k5 k6 k7 k8 k9 k10 k11 k12 k13 k14 k15 ad0 ad1 ad2 ad3 ad4 ad5 ad6 ad7 ad8 ad9 ad10 ad11 ad12 ad13 ad14 ad15 HCk HS Hbb b3
        cases q
        rotate_left
        · clear Hci Hyk
          go_wp2_with fail
          go_roundg (N - (i + 1))
          case measure => have := HG.out; omega
          case rel => exact ⟨i + 1, Am, cm, K, rfl, by omega, by go_num, rfl, S3, Lib.hid ⟨hI.out.1, by obtain ⟨x, h1, h2⟩ := hI.out.2; exact ⟨x, h1, by omega⟩⟩, bb3⟩
        · have hgs : gOk y.s = true := by
            have := hq.out
            unfold sTake at this
            simp only [Bool.and_eq_true, Bool.not_false] at this
            exact this.2
          obtain ⟨hck, xq, hxq, hxi⟩ := hI.out
          have hK0 := (sCheck_parts hck).1
          have hK8 := (sCheck_parts hck).2.1
          rw [List.length_map] at hK0 hK8
          obtain ⟨bm, om, k, xl, xf, rfl, hbm, hkl, hxl, hxf, hcl, hcf, -, -, -⟩ := shs_ends S3 hK0
          have hxn := map_last rfl hxl hxq
          have ht := last_top hck hxq
          obtain ⟨hP1, ⟨kn, hP2, hP3, hP4⟩, hP5⟩ := push_grows hck hxq hgs (by omega)
          have HPu := Lib.hid (push_any S3 (Nat.le_refl _) (by omega) Hyk.out.1 (by omega) Hyk.out.2)
          have cl := range_num hcl
          have cf := range_num hcf
          rw [hxn.1] at cl
          have hfq : (K.map Shn.p).head? = some xf.p := by rw [List.head?_map, hxf]; rfl
          rw [hfq] at hP5
          have Hfacts := Lib.hid (And.intro hP1 (And.intro hP2 hP5))
          have hlds : w3.rangeAt bl (ol + i * 16) (y.s.v y.C y.cc y.M y.cm).toList ∧ (y.s.v y.C y.cc y.M y.cm).size = 16 := ⟨Hci.out, rfl⟩
          have am1 := addr_add bm om (k * 17)
          have am0 := addr_add bm om 0
          have am2 := addr_add bm (om + k * 17) 0
          have ht1 := ht.1
          obtain ⟨kx, hkx⟩ : ∃ kx, kx = xq.1 := ⟨_, rfl⟩
          rw [← hkx] at cl hP3 hP4 hxi ht1
          obtain ⟨P2, hP2e⟩ : ∃ P2, P2 = dPush (K.map Shn.p) y.s := ⟨_, rfl⟩
          rw [← hP2e] at HPu Hfacts
          obtain ⟨f0, hf0⟩ : ∃ f, f = xf.num := ⟨_, rfl⟩
          rw [← hf0] at cf
          have Hf0 := Lib.hid hf0
          rw [hkl] at HPu ⊢
          have hkl8 : k + 1 ≤ 8 := by omega
          have hbm3 := hbm
          clear hI hq hck hxq hxl hxf hcl hcf hxn ht hP1 hP2 hP5 hfq hkx hP2e hf0 S3 hkl hK0 hK8
          generalize hcy : y.s.v y.C y.cc y.M y.cm = cy at *
          have Hcy := Lib.hid hcy
          clear hcy
          go_wp2_with (first | ((with_reducible refine wpList_lds hlds ?_ ?_); rfl))
          refine HPu.out.mono ?_
          rintro e w4 ⟨A4, c4, K4, rfl, hK4, o4, ok4, b4⟩
          have S4 := shs_of o4 ok4 rfl
          have z4 := b4.size
          have bb4 := bb3.trans (b4.mono (Nat.le_trans z0 z3))
          have Hci4 := Lib.hid (show w4.rangeAt bl (ol + i * 16) y.v.toList from range_below Hci.out b4 (by omega))
          have Hyk4 := Lib.hid (Hyk.out.below b4 (by omega))
          obtain ⟨hF1, hF2, hF3⟩ := Hfacts.out
          rw [← hK4] at hF1 hF2 hF3
          have hK0 := (sCheck_parts hF1).1
          have hK8 := (sCheck_parts hF1).2.1
          rw [List.length_map] at hK0 hK8
          obtain ⟨b5, o5, k5, xl5, xf5, rfl, hb5, hkl5, hxl5, hxf5, hcl5, hcf5, hca5, hxm5, -⟩ := shs_ends S4 hK0
          have e1 := map_last rfl hxl5 hF2
          have e2 := map_head rfl hxf5 hF3
          have cl5 := range_num hcl5
          have cf5 := range_num hcf5
          rw [e1.1] at cl5
          rw [e2.1, show xf.p.1 = f0 from Hf0.out.symm] at cf5
          simp only at cl5
          have HCk := scheck_any S4 (Nat.le_refl _) (by omega)
          rw [hF1] at HCk
          have HCk := Lib.hid HCk
          have am5 := addr_add b5 o5 (k5 * 17)
          have am6 := addr_add b5 o5 0
          have am7 := addr_add b5 (o5 + k5 * 17) 0
          have am8 := addr_add b5 (o5 + k5 * 17) 1
          have hkb1 : ¬ (kn < kx) := by omega
          have hkb2 : ¬ (kx + 1 < kn) := by omega
          have HSl := Lib.hid (show w4.rangeAt b5 (o5 + k5 * 17 + 1) (xl5.s.v xl5.C xl5.cc xl5.M xl5.cm).toList from range_tail hcl5)
          have Hxs := Lib.hid e1.2
          have Hxo := Lib.hid (S4.ok xl5 hxm5)
          have HF := Lib.hid (And.intro hF1 hF2)
          have HS4 := Lib.hid S4
          have Hca5 := Lib.hid hca5
          have hkl5' := hkl5
          have Hb5 := Lib.hid (show b5 < w4.heap.size from hb5)
          rw [hkl5] at HCk ⊢
          have hk58 : k5 + 1 ≤ 8 := by omega
          have hkx30 : kx ≤ 30 := by omega
          have kb4 : w4.heap.size ≤ w4.heap.size := Nat.le_refl _
          clear HPu Hci Hyk cl cf o4 ok4 b4 bb3 hP3 hP4 Hfacts hF1 hF2 hF3 hK0 hK8 hkl5 hxl5 hxf5 hcl5 hcf5 e1 e2 am1 am0 am2 hlds Hcy S4 hxm5 hca5 hb5 hbm hbm3
          go_wp2_with fail
          refine HCk.out.mono ?_
          rintro e w5 ⟨rfl, b5'⟩
          have z5 := b5'.size
          have bb5 := bb4.trans (b5'.mono (by omega))
          have cl6 := (b5'.cell (p := ⟨b5, o5 + k5 * 17, none⟩) Hb5.out).trans cl5
          have cf6 := (b5'.cell (p := ⟨b5, o5, none⟩) Hb5.out).trans cf5
          have HSl6 := Lib.hid (range_below HSl.out b5' Hb5.out)
          have Hci6 := Lib.hid (range_below Hci4.out b5' (by omega))
          have Hxo6 := Lib.hid (Hxo.out.below b5' (Nat.le_refl _))
          have Hyk6 := Lib.hid (Hyk4.out.below b5' (by omega))
          have HS6 := Lib.hid ((HS4.out.below b5' (Nat.le_refl _)).more z5)
          have Hca6 := Lib.hid (fun i hi => range_below (Hca5.out i hi) b5' Hb5.out)
          clear HCk cl5 cf5 HSl Hci4 Hxo Hyk4 HS4 b5' bb4 Hca5
          go_upto_region 14 with fail
          have HSm := same_any Hxo6.out.1 (by omega) Hyk6.out.1 (by omega) Hxo6.out.2 Hyk6.out.2
          rw [gSame_iff.2 (show xl5.s = y.s from Hxs.out)] at HSm
          have b00 : Below w5.heap.size w5 w5.drew := (Below.refl _ _).drew
          have HSm := Lib.hid (fun W (b : Below w5.heap.size w5 W) => (show Calls Try.prog 20 #[.agg (xl5.s.v xl5.C xl5.cc xl5.M xl5.cm), .agg (y.s.v y.C y.cc y.M y.cm)] W (fun e w' => e = .returned (.bool true) ∧ Below W.heap.size W w') by
            have := same_any (Hxo6.out.below b (by omega)).1 (Nat.le_trans (by omega) b.size) (Hyk6.out.below b (by omega)).1 (Nat.le_trans (by omega) b.size) Hxo6.out.2 Hyk6.out.2
            rw [gSame_iff.2 (show xl5.s = y.s from Hxs.out)] at this
            exact this))
          have HH := Lib.hid (fun W (b : Below w5.heap.size w5 W) => (show Hid (W.rangeAt b5 (o5 + k5 * 17 + 1) (xl5.s.v xl5.C xl5.cc xl5.M xl5.cm).toList) ∧ Hid (W.rangeAt bl (ol + i * 16) (y.s.v y.C y.cc y.M y.cm).toList) from ⟨Lib.hid (range_below HSl6.out b (by have := Hb5.out; omega)), Lib.hid (range_below Hci6.out b (by omega))⟩))
          have hwk5 : IntKind.i64.wrap (k5 : Int) = k5 := IntWalk.i64_in _ (by omega)
          go_cut [15] (fun s15 wx => s15 = .bool true ∧ Below w5.heap.size w5 wx)
          case first => as_aux_lemma =>
            generalize hc1 : xl5.s.v xl5.C xl5.cc xl5.M xl5.cm = ca at *
            generalize hc2 : y.s.v y.C y.cc y.M y.cm = cb at *
            have hs1 : ca.size = 16 := by rw [← hc1]; rfl
            have hs2 : cb.size = 16 := by rw [← hc2]; rfl
            clear hc1 hc2 HSl6 Hci6 Hxo6 Hyk6 HS6 Hca6 cl6 cf6 HF HR HBy HG
            refine wp_region_noPanic ?_
            refine wp_region_held_drew (S := (fun w' : World => Hid (w'.rangeAt b5 (o5 + k5 * 17 + 1) ca.toList) ∧ Hid (w'.rangeAt bl (ol + i * 16) cb.toList))) (by kernel_rfl) (by (try dsimp only); exact HH.out _ b00) (fun hHeld => ?_)
            refine wpAnyH_take (i := 0) (oi := { dst := some 122, op := Op.move (Operand.tmp 10), type := 25, pos := "law.go:92", after := #[], guard := none }) (v := ?_) rfl (by kernel_rfl) (by kernel_rfl) (by kernel_rfl) (fun _ _ _ h => h) (Or.inl ⟨by rfl, ?_⟩) (by assumption) ?_
            rotate_left
            · (intro w hSw; (try dsimp only at hSw); go_simp); (try with_reducible rfl)
            try simp only [Act.put, List.setIfInBounds_toArray, List.set_cons_zero, List.set_cons_succ]
            refine wpAnyH_take (i := 1) (oi := { dst := some 123, op := Op.move (Operand.tmp 10), type := 25, pos := "law.go:92", after := #[], guard := none }) (v := ?_) rfl (by kernel_rfl) (by kernel_rfl) (by kernel_rfl) (fun _ _ _ h => h) (Or.inl ⟨by rfl, ?_⟩) (by assumption) ?_
            rotate_left
            · (intro w hSw; (try dsimp only at hSw); go_simp); (try with_reducible rfl)
            try simp only [Act.put, List.setIfInBounds_toArray, List.set_cons_zero, List.set_cons_succ]
            refine wpAnyH_take (i := 2) (oi := { dst := some 124, op := Op.call { callee := Callee.builtin Builtin.len, args := #[Operand.tmp 123], argTypes := #[25] }, type := 3, pos := "law.go:92", after := #[{ on := 1, ground := Ground.data }], guard := none }) (v := ?_) rfl (by kernel_rfl) (by kernel_rfl) (by kernel_rfl) (fun _ _ _ h => h) (Or.inl ⟨by rfl, ?_⟩) (by assumption) ?_
            rotate_left
            · (intro w hSw; (try dsimp only at hSw); go_simp); (try with_reducible rfl)
            try simp only [Act.put, List.setIfInBounds_toArray, List.set_cons_zero, List.set_cons_succ]
            refine wpAnyH_take (i := 3) (oi := { dst := some 125, op := Op.binOp BinOp.sub 3 (Operand.tmp 124) (Operand.const (Value.int IntKind.i64 1)) 3, type := 3, pos := "law.go:92", after := #[{ on := 2, ground := Ground.data }], guard := none }) (v := ?_) rfl (by kernel_rfl) (by kernel_rfl) (by kernel_rfl) (fun _ _ _ h => h) (Or.inl ⟨by rfl, ?_⟩) (by assumption) ?_
            rotate_left
            · (intro w hSw; (try dsimp only at hSw); go_simp); (try with_reducible rfl)
            try simp only [Act.put, List.setIfInBounds_toArray, List.set_cons_zero, List.set_cons_succ]
            refine wpAnyH_take (i := 4) (oi := { dst := some 126, op := Op.indexAddr 25 (Operand.tmp 122) (Operand.tmp 125), type := 0, pos := "law.go:92", after := #[{ on := 0, ground := Ground.data }, { on := 3, ground := Ground.data }], guard := none }) (v := ?_) rfl (by kernel_rfl) (by kernel_rfl) (by kernel_rfl) (fun _ _ _ h => h) (Or.inl ⟨by rfl, ?_⟩) (by assumption) ?_
            rotate_left
            · (intro w hSw; (try dsimp only at hSw); go_simp); (try with_reducible rfl)
            try simp only [Act.put, List.setIfInBounds_toArray, List.set_cons_zero, List.set_cons_succ]
            refine wpAnyH_take (i := 5) (oi := { dst := some 127, op := Op.fieldAddr 39 (Operand.tmp 126) 1, type := 0, pos := "law.go:92", after := #[{ on := 4, ground := Ground.data }], guard := none }) (v := ?_) rfl (by kernel_rfl) (by kernel_rfl) (by kernel_rfl) (fun _ _ _ h => h) (Or.inl ⟨by rfl, ?_⟩) (by assumption) ?_
            rotate_left
            · (intro w hSw; (try dsimp only at hSw); go_simp); (try with_reducible rfl)
            try simp only [Act.put, List.setIfInBounds_toArray, List.set_cons_zero, List.set_cons_succ]
            refine wpAnyH_take (i := 6) (oi := { dst := some 128, op := Op.load 35 (Operand.tmp 127), type := 35, pos := "law.go:92", after := #[{ on := 5, ground := Ground.data }], guard := none }) (v := .agg ca) rfl (by kernel_rfl) (by kernel_rfl) (by kernel_rfl) (fun _ _ _ h => h) (Or.inl ⟨by rfl, fun w hSw => exec_lds hSw.1 hs1 rfl⟩) (by assumption) ?_
            try simp only [Act.put, List.setIfInBounds_toArray, List.set_cons_zero, List.set_cons_succ]
            refine wpAnyH_take (i := 7) (oi := { dst := some 129, op := Op.move (Operand.tmp 2), type := 22, pos := "law.go:92", after := #[], guard := none }) (v := ?_) rfl (by kernel_rfl) (by kernel_rfl) (by kernel_rfl) (fun _ _ _ h => h) (Or.inl ⟨by rfl, ?_⟩) (by assumption) ?_
            rotate_left
            · (intro w hSw; (try dsimp only at hSw); go_simp); (try with_reducible rfl)
            try simp only [Act.put, List.setIfInBounds_toArray, List.set_cons_zero, List.set_cons_succ]
            refine wpAnyH_take (i := 8) (oi := { dst := some 130, op := Op.move (Operand.tmp 12), type := 3, pos := "law.go:92", after := #[], guard := none }) (v := ?_) rfl (by kernel_rfl) (by kernel_rfl) (by kernel_rfl) (fun _ _ _ h => h) (Or.inl ⟨by rfl, ?_⟩) (by assumption) ?_
            rotate_left
            · (intro w hSw; (try dsimp only at hSw); go_simp); (try with_reducible rfl)
            try simp only [Act.put, List.setIfInBounds_toArray, List.set_cons_zero, List.set_cons_succ]
            refine wpAnyH_take (i := 9) (oi := { dst := some 131, op := Op.indexAddr 22 (Operand.tmp 129) (Operand.tmp 130), type := 0, pos := "law.go:92", after := #[{ on := 7, ground := Ground.data }, { on := 8, ground := Ground.data }], guard := none }) (v := ?_) rfl (by kernel_rfl) (by kernel_rfl) (by kernel_rfl) (fun _ _ _ h => h) (Or.inl ⟨by rfl, ?_⟩) (by assumption) ?_
            rotate_left
            · (intro w hSw; (try dsimp only at hSw); go_simp); (try with_reducible rfl)
            try simp only [Act.put, List.setIfInBounds_toArray, List.set_cons_zero, List.set_cons_succ]
            refine wpAnyH_take (i := 10) (oi := { dst := some 132, op := Op.load 35 (Operand.tmp 131), type := 35, pos := "law.go:92", after := #[{ on := 9, ground := Ground.data }], guard := none }) (v := .agg cb) rfl (by kernel_rfl) (by kernel_rfl) (by kernel_rfl) (fun _ _ _ h => h) (Or.inl ⟨by rfl, fun w hSw => exec_lds hSw.2 hs2 rfl⟩) (by assumption) ?_
            try simp only [Act.put, List.setIfInBounds_toArray, List.set_cons_zero, List.set_cons_succ]
            refine wpAnyH_ready (rs := [11]) (by kernel_rfl) (by simp) ?_
            refine AllReadyH.cons (o := { dst := some 133, op := Op.call { callee := Callee.value (Operand.func 20), args := #[Operand.tmp 128, Operand.tmp 132], argTypes := #[35, 35] }, type := 4, pos := "law.go:92", after := #[{ on := 6, ground := Ground.data }, { on := 10, ground := Ground.data }], guard := none }) rfl (fun K hK => ?_) AllReadyH.nil
            go_simp
            refine (HSm.out _ b00).mono ?_; rintro e w6 ⟨rfl, hb6⟩; have b06 : Below w5.heap.size w5 w6 := b00.trans (hb6.mono (Nat.le_refl _))
            refine hK.out _ _ (by (try dsimp only); exact HH.out _ b06) (fun hHeld => ?_)
            clear hK K
            try simp only [Act.put, List.setIfInBounds_toArray, List.set_cons_zero, List.set_cons_succ]
            refine wpAnyH_take (i := 12) (oi := { dst := some 15, op := Op.assign (Operand.tmp 133), type := 4, pos := "law.go:92", after := #[{ on := 11, ground := Ground.data }, { on := 11, ground := Ground.chain }, { on := 0, ground := Ground.phase }, { on := 1, ground := Ground.phase }, { on := 2, ground := Ground.phase }, { on := 3, ground := Ground.phase }, { on := 4, ground := Ground.phase }, { on := 5, ground := Ground.phase }, { on := 6, ground := Ground.phase }, { on := 7, ground := Ground.phase }, { on := 8, ground := Ground.phase }, { on := 9, ground := Ground.phase }, { on := 10, ground := Ground.phase }, { on := 11, ground := Ground.phase }], guard := none }) (v := ?_) rfl (by kernel_rfl) (by kernel_rfl) (by kernel_rfl) (fun _ _ _ h => h) (Or.inl ⟨by rfl, ?_⟩) (by assumption) ?_
            rotate_left
            · (intro w hSw; (try dsimp only at hSw); go_simp); (try with_reducible rfl)
            try simp only [Act.put, List.setIfInBounds_toArray, List.set_cons_zero, List.set_cons_succ]
            refine wpAnyH_done (by kernel_rfl) ?_ _
            refine NoPanic.normal ?_
            go_wp2_with fail
            go_meet
            exact ⟨rfl, b06⟩
          case rest => as_aux_lemma =>
            obtain ⟨rfl, b6⟩ := hcut
            rename World => w6
            have z6 := b6.size
            have bb6 := bb5.trans (b6.mono (by omega))
            have S6 := (HS6.out.below b6 (Nat.le_refl _)).more z6
            have Hca7 := Lib.hid (fun i hi => range_below (Hca6.out i hi) b6 (by have := Hb5.out; omega))
            have Hb6 : Hid (b5 < w5.heap.size) := Lib.hid (by have := Hb5.out; omega)
            clear HSm HH HSl6 Hci6 Hxo6 Hyk6 HS6 Hca6 cl6 cf6 b6 bb5 b00 Hxs
            by_cases hk : i < n3
            · have hkI : (i : Int) < n3 := by omega
              obtain ⟨ba, oa, v, rfl, hcv, hv⟩ := byte_at (HBy.out _ bb6) hk
              obtain ⟨j, hj⟩ : ∃ j, j = v % (k5 + 1) := ⟨_, rfl⟩
              have hjk : j < k5 + 1 := by rw [hj]; exact Nat.mod_lt _ (by omega)
              have hrem : Int.tmod (v : Int) ((k5 : Int) + 1) = j := by rw [Int.tmod_eq_emod_of_nonneg (by omega), hj]; simp
              have hjI : (j : Int) < (k5 : Int) + 1 := by omega
              have hvI : (v : Int) ≤ 255 := by omega
              have hjl : j < K4.length := by omega
              have cj := range_num (Hca7.out j hjl)
              have ac1 := addr_add ba oa i
              have ac2 := addr_add b5 o5 (j * 17)
              have ac3 := addr_add b5 (o5 + j * 17) 0
              obtain ⟨hF1, hF2⟩ := HF.out
              have hjp : j < (K4.map Shn.p).length := by rw [List.length_map]; exact hjl
              obtain ⟨hA1, hA2, hA3, hA4⟩ := acked_at hF1 hjp
              rw [List.getElem_map] at hA1 hA3
              have hAc := acked_any (z := K4[j].num) S6 (Nat.le_refl _) (by omega)
              rw [show dAcked (K4.map Shn.p) K4[j].num = (K4.map Shn.p).drop j from hA1] at hAc
              have HAc := Lib.hid hAc
              have HF2 := Lib.hid (And.intro hA2 (And.intro hA3 (hA4.trans hF2)))
              clear hAc hA1 hA2 hA3 hA4 hF1 hF2 HF Hca7 S6 hj HR hk
              have hkp : (K4[j].p).1 = K4[j].num := rfl
              generalize K4[j] = zj at *
              rw [hkl5'] at HAc
              go_wp2_with fail
              refine HAc.out.mono ?_
              rintro e w7 ⟨A7, c7, K7, rfl, hK7, o7, ok7, b7⟩
              have S7 := shs_of o7 ok7 rfl
              have z7 := b7.size
              have bb7 := bb6.trans (b7.mono (by omega))
              obtain ⟨hG1, hG2, hG3⟩ := HF2.out
              rw [← hK7] at hG1 hG2 hG3
              have hK70 := (sCheck_parts hG1).1
              have hK78 := (sCheck_parts hG1).2.1
              rw [List.length_map] at hK70 hK78
              obtain ⟨b8, o8, k8, xl8, xf8, rfl, hb8, hkl8', hxl8, hxf8, hcl8, hcf8, -, -, -⟩ := shs_ends S7 hK70
              have e3 := map_head rfl hxf8 hG2
              have cf8 := range_num hcf8
              rw [e3.1, hkp] at cf8
              have HCk := scheck_any S7 (Nat.le_refl _) (by omega)
              rw [hG1] at HCk
              have HCk := Lib.hid HCk
              have am8' := addr_add b8 o8 0
              have F := Lib.hid (show Hid (sCheck (K7.map Shn.p) = true ∧ ∃ x, (K7.map Shn.p).getLast? = some x ∧ x.1 ≤ ((i + 1 : Nat) : Int)) from Lib.hid ⟨hG1, _, hG3, by simp only; omega⟩)
              rw [hkl8'] at HCk ⊢
              have HS7 := Lib.hid S7
              clear HAc hcv cj o7 ok7 b7 bb6 hG1 hG2 hG3 hK70 hxl8 hxf8 hcl8 hcf8 e3 S7 HF2 hK7
              go_wp2_with fail
              refine HCk.out.mono ?_
              rintro e w8 ⟨rfl, b8'⟩
              have cf9 := (b8'.cell (p := ⟨b8, o8, none⟩) hb8).trans cf8
              have S8 := (HS7.out.below b8' (Nat.le_refl _)).more b8'.size
              have bb8 := bb7.trans (b8'.mono (by omega))
              clear HCk cf8 HS7 b8' bb7
              go_wp2_with fail
              go_roundg (N - (i + 1))
              case measure => have := HG.out; omega
              case rel => exact ⟨i + 1, _, c7, K7, rfl, by omega, by go_num, by rw [hkl8'], S8, F.out, bb8⟩
            · have hkI : ¬ ((i : Int) < n3) := by omega
              have F := Lib.hid (show Hid (sCheck (K4.map Shn.p) = true ∧ ∃ x, (K4.map Shn.p).getLast? = some x ∧ x.1 ≤ ((i + 1 : Nat) : Int)) from Lib.hid ⟨HF.out.1, _, HF.out.2, by simp only; omega⟩)
              clear HF Hca7
              go_wp2_with fail
              go_roundg (N - (i + 1))
              case measure => have := HG.out; omega
              case rel => exact ⟨i + 1, _, c4, K4, rfl, by omega, by go_num, by rw [hkl5'], S6, F.out, bb6⟩
    · obtain rfl : i = N := by omega
      clear hI hS
      by_cases h2 : l.length ≤ i
      · have h2I : ¬ ((i : Int) < l.length) := by omega
        go_wp2_with fail
        go_ret
        exact ⟨rfl, bb⟩
      · have h2I : (i : Int) < l.length := by omega
        have h3I : ¬ ((i : Int) < 30) := by omega
        go_wp2_with fail
        go_ret
        exact ⟨rfl, bb⟩
end Go.Proofs.Ytfeeincglijmjaa
