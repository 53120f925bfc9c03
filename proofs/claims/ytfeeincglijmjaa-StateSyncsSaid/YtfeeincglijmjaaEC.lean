/- Texts of this seat, one behind the other. -/
import Derived.Test.YtfeeincglijmjaaZB2
import Derived.Test.YtfeeincglijmjaaGE
namespace Go.Proofs.Ytfeeincglijmjaa
open Go.RowKit
set_option linter.unusedVariables false
set_option linter.unusedSimpArgs false
attribute [local go_sem ↓] Go.wp_at_zero Go.wp_at_succ

theorem nPut_len : ∀ (k : Nat) (o : List (Int × Int)) (p : Nat) (L : List Int) (b : Bool), (nPut k o p L b).1.length = o.length
  | 0, o, p, L, b => rfl
  | k + 1, o, p, L, b => by rw [nPut, nPut_len k, List.length_set]
theorem nRows_len : ∀ (k : Nat) (o : List (Int × Int)) (p : Nat) (L : List Int) (b : Bool), (nRows k o p L b).1.length = o.length
  | 0, o, p, L, b => rfl
  | k + 1, o, p, L, b => by rw [nRows, nRows_len k, nPut_len]
theorem nChg_len (f : List (Int × Int)) (L : List Int) (b : Bool) : (nChg f L b).1.length = f.length := nRows_len _ _ _ _ _
/-- What is handed back: places of one's own; the box of numbers is changed. -/
def RetCh (w : World) (lo up g : Nat) (q : List (Int × Int) × List Int × Bool) (e : Ending) (w' : World) : Prop :=
  ∃ A c, e = .returned (.slice A q.1.length c) ∧ w'.ownsRow w.heap.size 64 2 (.slice A q.1.length c) q.1.length (cCells q.1) ∧ w.grownBy w' (some g) ∧ NBox w' lo up g q.2.1 q.2.2 ∧ (∀ x ∈ q.2.1, 0 ≤ x) ∧ q.2.1.length ≤ 1000000

set_option maxHeartbeats 16000000 in
set_option maxRecDepth 100000 in
theorem changed_any {lo up g lo2 up2 cf : Nat} {Af : Option Addr} {f : List (Int × Int)} {L : List Int} {b : Bool} {w : World} (hs : Sl w lo2 up2 2 Af f.length cf (cCells f)) (hup2 : up2 ≤ w.heap.size) (hB : NBox w lo up g L b) (hup : up ≤ w.heap.size) (hg : g < lo ∨ up ≤ g)
    (hL : L.length ≤ 1000000) (h0 : ∀ x ∈ L, 0 ≤ x) (hn : f.length ≤ 100000) :
    Calls Try.prog 66 #[.pointer (some ⟨g, 0, none⟩), .slice Af f.length cf] w (RetCh w lo up g (nChg f L b)) := by
  have HN := Lib.hid (fun W L b (h : NBox W lo up g L b) (h1 : up ≤ W.heap.size) (h2 : L.length ≤ 1000000) m => nnext_any h h1 hg h2 m)
  have HC := Lib.hid (clonec_any hs hup2 (by omega))
  have hgw := hB.lt
  obtain ⟨R, hR⟩ : ∃ R, R = nChg f L b := ⟨_, rfl⟩
  have hRl : R.1.length = f.length := by rw [hR]; exact nChg_len f L b
  have HRl := Lib.hid hRl
  rw [← hR]
  unfold nChg at hR
  have HR := Lib.hid hR
  have H0 := Lib.hid (nNext_bnd (b := b) (m := (f.length : Int)) h0 (by omega))
  clear hR hs hRl h0
  go_enter Try.func66, Try.ntmps66
  go_wp2_with fail
  refine HC.out.mono ?_
  rintro e w1 ⟨Ao, co, rfl, hown, bb⟩
  have hz1 := bb.size
  have hgr1 := grown_below' (g := g) bb
  have hNB1 := hB.below bb hgw hup
  go_wp2_with fail
  refine (HN.out _ _ _ hNB1 (by omega) hL _).mono ?_
  rintro e w2 ⟨rfl, hgr2, hz2, hNB2⟩
  obtain ⟨x1, L1, b1, hq1⟩ : ∃ x l c, nNext L b (f.length : Int) = (x, l, c) := ⟨_, _, _, rfl⟩
  rw [hq1] at HR H0 hNB2 ⊢
  simp only at HR H0 hNB2 ⊢
  obtain ⟨q, rfl⟩ : ∃ q : Nat, x1 = (q : Int) := ⟨x1.toNat, by have := H0.out.1; omega⟩
  simp only [Int.toNat_natCast] at HR
  have hqn : q ≤ f.length := by have := H0.out.2.1; omega
  have HL1 := Lib.hid H0.out.2.2.1
  have hL1 : L1.length ≤ 1000000 := Nat.le_trans H0.out.2.2.2 hL
  have hown2 := own_keep hown hgr2 (by omega)
  have hgr3 := grownBy_trans hgr1 hgr2
  have hgz : w.heap.size ≤ w2.heap.size := by omega
  clear H0 hq1 hgr1 hgr2 hNB1 hz2 hz1 bb hown hB hL HC
  obtain ⟨n, hnf⟩ : ∃ n, n = f.length := ⟨_, rfl⟩
  have Hnf := Lib.hid hnf
  rw [← hnf] at hown2 hqn hn ⊢
  have hRn : R.1.length = n := HRl.out.trans hnf.symm
  have HRl := Lib.hid hRn
  clear hnf hRn
  go_wp2_with fail
  go_loopg [6, 13] q (fun gh s6 s13 wr => ∃ (i p : Nat) (o : List (Int × Int)) (L : List Int) (b : Bool), gh = q - i ∧ i ≤ q ∧ s13 = .int .i64 i ∧ s6 = .int .i64 p ∧ p ≤ n ∧ Hid (o.length = n) ∧ Hid (R = nRows (q - i) o p L b) ∧ w.grownBy wr (some g) ∧ w.heap.size ≤ wr.heap.size ∧
    wr.ownsRow w.heap.size 64 2 (.slice Ao n co) n (cCells o) ∧ NBox wr lo up g L b ∧ L.length ≤ 1000000 ∧ Hid (∀ x ∈ L, 0 ≤ x))
  case atStart => exact ⟨0, 0, f, L1, b1, rfl, Nat.zero_le _, rfl, rfl, Nat.zero_le _, Lib.hid Hnf.out.symm, HR, hgr3, hgz, hown2, hNB2, hL1, HL1⟩
  case round =>
    clear hgr3 hgz hown2 hNB2 hL1 HL1 HR
    obtain ⟨i, p, o, L, b, hgh, hiq, rfl, rfl, hp, ho, hrec, hgr, hgz, hown, hNB, hL, h0⟩ := hrel
    have HG := Lib.hid hgh
    clear hgh
    by_cases h : i < q
    · obtain ⟨k, hk⟩ : ∃ k, q - i = k + 1 := ⟨q - i - 1, by omega⟩
      have hrec2 := hrec.out
      rw [hk, nRows] at hrec2
      rw [ho.out] at hrec2
      have Hrec := Lib.hid hrec2
      have Hk := Lib.hid hk
      have hp2 : (p : Int) ≤ n := by omega
      have hn2 : (n : Int) ≤ 100000 := by omega
      clear hrec hrec2 hk
      have B1 := nNext_bnd (L := L) (b := b) (m := (n : Int) - (p : Int)) h0.out (by omega)
      go_wp2_with fail
      refine (HN.out _ _ _ hNB (by omega) hL _).mono ?_
      rintro e w3 ⟨rfl, hgr3, hz3, hNB3⟩
      obtain ⟨y, hy⟩ : ∃ y, y = nTwo n p L b := ⟨_, rfl⟩
      rw [← hy] at Hrec
      have Hy := Lib.hid hy
      clear hy
      unfold nTwo at Hy
      obtain ⟨x1, L1, b1, hq1⟩ : ∃ x l c, nNext L b ((n : Int) - (p : Int)) = (x, l, c) := ⟨_, _, _, rfl⟩
      rw [hq1] at Hy B1 hNB3 ⊢
      clear hq1
      simp only at Hy B1 hNB3 ⊢
      obtain ⟨u, rfl⟩ : ∃ q : Nat, x1 = (q : Int) := ⟨x1.toNat, by have := B1.1; omega⟩
      simp only [Int.toNat_natCast] at Hy
      obtain ⟨_, hub, hL1, hl1⟩ := B1
      have HL1 := Lib.hid hL1
      have hll1 : L1.length ≤ 1000000 := Nat.le_trans hl1 hL
      have hown3 := own_keep hown hgr3 (by omega)
      have hgr4 := grownBy_trans hgr hgr3
      clear hL1 hl1 hown hgr hgr3 hNB hL h0
      have hpu : p + u ≤ n := by omega
      have hpu2 : (p : Int) + (u : Int) ≤ n := by omega
      have B2 := nNext_bnd (L := L1) (b := b1) (m := (n : Int) - ((p + u : Nat) : Int)) HL1.out (by omega)
      have ecast : (n : Int) - ((p + u : Nat) : Int) = (n : Int) - ((p : Int) + (u : Int)) := by omega
      rw [ecast] at Hy B2
      clear ecast
      go_wp2_with fail
      refine (HN.out _ _ _ hNB3 (by omega) hll1 _).mono ?_
      rintro e w4 ⟨rfl, hgr5, hz5, hNB5⟩
      obtain ⟨x2, L2, b2, hq2⟩ : ∃ x l c, nNext L1 b1 ((n : Int) - ((p : Int) + (u : Int))) = (x, l, c) := ⟨_, _, _, rfl⟩
      rw [hq2] at Hy B2 hNB5 ⊢
      clear hq2
      simp only at Hy B2 hNB5 ⊢
      obtain ⟨r, rfl⟩ : ∃ q : Nat, x2 = (q : Int) := ⟨x2.toNat, by have := B2.1; omega⟩
      simp only [Int.toNat_natCast] at Hy
      obtain ⟨_, hrb, hL2, hl2⟩ := B2
      have HL2 := Lib.hid hL2
      have hll2 : L2.length ≤ 1000000 := Nat.le_trans hl2 hll1
      have hown5 := own_keep hown3 hgr5 (by omega)
      have hgr6 := grownBy_trans hgr4 hgr5
      have hgz6 := hgr6.size
      have hur : p + u + r ≤ n := by omega
      rw [Hy.out] at Hrec
      simp only at Hrec
      obtain ⟨P, hP⟩ : ∃ P, P = nPut r o (p + u) L2 b2 := ⟨_, rfl⟩
      rw [← hP] at Hrec
      have HP := Lib.hid hP
      clear hP Hy hL2 hl2 hown3 hgr4 hgr5 hNB3 hll1 HL1 hrb hub
      go_wp2_with fail
      go_loopg [6, 29] r (fun gh s6 s29 wr => ∃ (j p' : Nat) (o : List (Int × Int)) (L : List Int) (b : Bool), gh = r - j ∧ j ≤ r ∧ s29 = .int .i64 j ∧ s6 = .int .i64 p' ∧ p' + (r - j) ≤ n ∧ Hid (o.length = n) ∧ Hid (P = nPut (r - j) o p' L b) ∧ w.grownBy wr (some g) ∧ w.heap.size ≤ wr.heap.size ∧
        wr.ownsRow w.heap.size 64 2 (.slice Ao n co) n (cCells o) ∧ NBox wr lo up g L b ∧ L.length ≤ 1000000 ∧ Hid (∀ x ∈ L, 0 ≤ x))
      case atStart => exact ⟨0, p + u, o, L2, b2, rfl, Nat.zero_le _, rfl, by go_num, hur, ho, HP, hgr6, hgz6, hown5, hNB5, hll2, HL2⟩
      case round =>
        clear hgr6 hgz6 hown5 hNB5 hll2 HL2 HP ho
        obtain ⟨j, p', o, L, b, hgh, hjr, rfl, rfl, hp', ho, hrec, hgr, hgz, hown, hNB, hL, h0⟩ := hrel
        have HG2 := Lib.hid hgh
        clear hgh
        by_cases h2 : j < r
        · obtain ⟨k2, hk2⟩ : ∃ k, r - j = k + 1 := ⟨r - j - 1, by omega⟩
          have hrec2 := hrec.out
          rw [hk2, nPut] at hrec2
          have Hrec2 := Lib.hid hrec2
          have Hk2 := Lib.hid hk2
          have hp3 : (p' : Int) < n := by omega
          have hp4 : p' < n := by omega
          clear hrec hrec2 hk2
          have B1 := nNext_bnd (L := L) (b := b) (m := 4611686018427387903) h0.out (by omega)
          go_wp2_with fail
          refine (HN.out _ _ _ hNB (by omega) hL _).mono ?_
          rintro e w5 ⟨rfl, hgr7, hz7, hNB7⟩
          obtain ⟨x1, L1, b1, hq1⟩ : ∃ x l c, nNext L b 4611686018427387903 = (x, l, c) := ⟨_, _, _, rfl⟩
          rw [hq1] at Hrec2 B1 hNB7 ⊢
          clear hq1
          simp only at Hrec2 B1 hNB7 ⊢
          obtain ⟨_, _, hL1, hl1⟩ := B1
          have HL1 := Lib.hid hL1
          have hll1 : L1.length ≤ 1000000 := Nat.le_trans hl1 hL
          have hown7 := own_keep hown hgr7 (by omega)
          have hgr8 := grownBy_trans hgr hgr7
          clear hL1 hl1 hown hgr hgr7 hNB hL h0
          have B2 := nNext_bnd (L := L1) (b := b1) (m := 4611686018427387903) HL1.out (by omega)
          go_wp2_with fail
          refine (HN.out _ _ _ hNB7 (by omega) hll1 _).mono ?_
          rintro e w6 ⟨rfl, hgr9, hz9, hNB9⟩
          obtain ⟨x2, L2, b2, hq2⟩ : ∃ x l c, nNext L1 b1 4611686018427387903 = (x, l, c) := ⟨_, _, _, rfl⟩
          rw [hq2] at Hrec2 B2 hNB9 ⊢
          clear hq2
          simp only at Hrec2 B2 hNB9 ⊢
          obtain ⟨_, _, hL2, hl2⟩ := B2
          have HL2 := Lib.hid hL2
          have hll2 : L2.length ≤ 1000000 := Nat.le_trans hl2 hll1
          have hown9 := own_keep hown7 hgr9 (by omega)
          have hgr10 := grownBy_trans hgr8 hgr9
          clear hL2 hl2 hown7 hgr8 hgr9 hNB7 hll1 HL1
          obtain ⟨go, rfl, hgb, hglt, ⟨u1, k1⟩, ⟨u2, k2'⟩, kf, hown11⟩ := own_setc hown9 (by rw [ho.out]; exact hp4) x1 x2
          have G11 := grownBy_setCells go [.int .i64 x1, .int .i64 x2] (p' * 2) w6
          have hgr12 := grown_own hgr10 G11 hgb
          have hNB12 := hNB9.grown G11 (by omega) (fun k e => by cases e; exact ⟨.inr (by omega), by omega⟩)
          have hgz12 := hgr12.size
          have Hown := Lib.hid hown11
          have HNB12 := Lib.hid hNB12
          have Hgr := Lib.hid hgr12
          have Hgz := Lib.hid hgz12
          have a1 := addr_add go 0 (p' * 2)
          clear hown9 hgr10 hNB9 hown11 hNB12 G11 hgr12 hgz12
          generalize hW : w6.setCells go (p' * 2) [.int .i64 x1, .int .i64 x2] = W at *
          simp only [World.setCells] at hW
          go_wp2_with fail
          try rw [hW]
          go_roundg (r - (j + 1))
          case measure => have := HG2.out; omega
          case rel => exact ⟨j + 1, p' + 1, _, L2, b2, rfl, by omega, by go_num, by go_num, by omega, Lib.hid (by rw [List.length_set]; exact ho.out), Lib.hid (by rw [show r - (j + 1) = k2 from by have := Hk2.out; omega]; exact Hrec2.out), Hgr.out, Hgz.out, Hown.out, HNB12.out, hll2, HL2⟩
        · obtain rfl : j = r := by omega
          have hrec2 := hrec.out
          rw [Nat.sub_self, nPut] at hrec2
          have Hrec2 := Hrec.out
          rw [hrec2] at Hrec2
          have Hrec3 := Lib.hid Hrec2
          clear hrec hrec2 Hrec2 Hrec
          go_wp2_with fail
          go_roundg (q - (i + 1))
          case measure => have := HG.out; omega
          case rel => exact ⟨i + 1, p', o, L, b, rfl, by omega, by go_num, rfl, by omega, ho, Lib.hid (by rw [show q - (i + 1) = k from by have := Hk.out; omega]; exact Hrec3.out), hgr, hgz, hown, hNB, hL, h0⟩
    · obtain rfl : i = q := by omega
      have hrec2 := hrec.out
      rw [Nat.sub_self, nRows] at hrec2
      have Hrec2 := Lib.hid hrec2
      clear hrec hrec2
      go_wp2_with fail
      go_ret
      rw [Hrec2.out]
      exact ⟨Ao, co, by rw [ho.out]; rfl, by rw [ho.out]; exact hown, hgr, hNB, h0.out, hL⟩
end Go.Proofs.Ytfeeincglijmjaa
