/- Texts of this seat, one behind the other. -/
import Derived.Test.YtfeeincglijmjaaZB2
import Derived.Test.YtfeeincglijmjaaGE
import Derived.Test.YtfeeincglijmjaaZB10
import Derived.Test.YtfeeincglijmjaaDM
namespace Go.Proofs.Ytfeeincglijmjaa
/- The walk of the document's changed. -/
section
open Go.RowKit
set_option linter.unusedVariables false
set_option linter.unusedSimpArgs false
attribute [local go_sem ↓] Go.wp_at_zero Go.wp_at_succ

/-- What is handed back: places of one's own, and the numbers that are left. -/
def RetRC (w : World) (lo up : Nat) (q : List (Int × Int) × List Int) (e : Ending) (w' : World) : Prop :=
  ∃ A c D dc, e = .returned (.tuple #[.slice A q.1.length c, .slice D q.2.length dc]) ∧ w'.ownsRow w.heap.size 64 2 (.slice A q.1.length c) q.1.length (cCells q.1) ∧ Sl w' lo up 1 D q.2.length dc (intCells q.2) ∧ Below w.heap.size w w'

set_option maxHeartbeats 16000000 in
set_option maxRecDepth 100000 in
theorem rchanged_nil {lo up lo2 up2 cf dc : Nat} {Af D : Option Addr} {f : List (Int × Int)} {w : World} (hs : Sl w lo2 up2 2 Af f.length cf (cCells f)) (hup2 : up2 ≤ w.heap.size) (hd : Sl w lo up 1 D 0 dc (intCells [])) (hup : up ≤ w.heap.size)
    (hn : f.length ≤ 100000) :
    Calls Try.prog 68 #[.slice Af f.length cf, .slice D 0 dc] w (RetRC w lo up (rChg f [])) := by
  obtain ⟨i0, hi0, hz0, hz1, hz2⟩ := info_parts info64
  go_enter Try.func68, Try.ntmps68
  go_wp2_with (at_builtin; refine wpList_append_sl _ rfl (.tmp 12) (.tmp 13) _ rfl w.heap.size 64 i0 _ 2 16 Try.underlying32 hi0 hz0 hz1 hz2 rfl (by omega) (.slice (some ⟨w.heap.size, 0, none⟩) 0 0) 0 [] rfl (own_made rfl (Nat.le_refl _)) lo2 up2 _ f.length cf _ rfl (hs.alloc hup2 _) (cCells_one f) f.length (by omega) _ rfl (by unfold maxLen; omega) (by omega) (by simp) ?_; intro A' c' w' hown hg)
  go_ret2
  have bb := ((Below.refl w.heap.size w).alloc (Nat.le_refl _) (.cells #[] 64)).grown hg (by simp) (fun k hk => by simp [Value.ownBlock] at hk; omega)
  exact ⟨A', c', D, dc, rfl, hown, hd.below bb hup, bb⟩

theorem rc_fin {w w' : World} {lo up n co N dc : Nat} {A D : Option Addr} {R : List (Int × Int) × List Int} {o : List (Int × Int)} {K : List Int} (hR : R = (o, K)) (ho : o.length = n) (hown : w'.ownsRow w.heap.size 64 2 (.slice A n co) n (cCells o)) (hN : N = K.length)
    (hsl : Sl w' lo up 1 D N dc (intCells K)) (bb : Below w.heap.size w w') : RetRC w lo up R (.returned (.tuple #[.slice A n co, .slice D N dc])) w' := by
  subst hR hN ho
  exact ⟨A, co, D, dc, rfl, hown, hsl, bb⟩
theorem drop_two {r : List Int} {k : Nat} (h : 2 * k + 1 < r.length) : r.drop (2 * k) = r[2 * k] :: r[2 * k + 1] :: r.drop (2 * (k + 1)) := by
  rw [List.drop_eq_getElem_cons (by omega), List.drop_eq_getElem_cons h]
  rfl
set_option maxHeartbeats 16000000 in
set_option maxRecDepth 100000 in
theorem rchanged_cons {lo up lo2 up2 cf dc : Nat} {Af D : Option Addr} {f : List (Int × Int)} {m : Int} {L : List Int} {w : World} (hs : Sl w lo2 up2 2 Af f.length cf (cCells f)) (hup2 : up2 ≤ w.heap.size) (hd : Sl w lo up 1 D (L.length + 1) dc (intCells (m :: L))) (hup : up ≤ w.heap.size)
    (hL : L.length ≤ 1000000) (hm : 0 ≤ m ∧ m ≤ 4611686018427387903) (h0 : ∀ x ∈ L, 0 ≤ x ∧ x ≤ 4611686018427387903) (hn : f.length ≤ 100000) :
    Calls Try.prog 68 #[.slice Af f.length cf, .slice D (L.length + 1) dc] w (RetRC w lo up (rChg f (m :: L))) := by
  obtain ⟨i0, hi0, hz0, hz1, hz2⟩ := info_parts info64
  obtain ⟨j0, hj0, hy0, hy1, hy2⟩ := info_parts info3
  obtain ⟨b, o, rfl, hcb⟩ := sli_cell hd (by omega)
  obtain ⟨R, hR⟩ : ∃ R, R = rChg f (m :: L) := ⟨_, rfl⟩
  have hRl : R.1.length = f.length := by rw [hR]; exact (rChg_len f (m :: L)).1
  rw [← hR]
  unfold rChg at hR
  have HR := Lib.hid hR
  have HRl := Lib.hid hRl
  have H0 := Lib.hid h0
  have HD := Lib.hid hd
  obtain ⟨M, rfl⟩ : ∃ M : Nat, m = (M : Int) := ⟨m.toNat, by omega⟩
  clear hR hRl h0 hcb
  obtain ⟨n, hnf⟩ : ∃ n, n = f.length := ⟨_, rfl⟩
  have Hnf := Lib.hid hnf
  have HLn : (0 : Int) < (L.length : Int) + 1 := by omega
  have HLn2 : ¬ ((L.length : Int) + 1 = 0) := by omega
  obtain ⟨D1, hcut1, hd1⟩ := cut_l Try.underlying88 hj0 hy1 hd 1 L.length (1 : Int) rfl (by omega)
  have hd1 : Sl w lo up 1 D1 L.length (dc - 1) (intCells L) := by simpa [intCells] using hd1
  have HD1 := Lib.hid hd1
  clear hd hd1
  go_enter Try.func68, Try.ntmps68
  go_wp2_with (at_builtin; refine wpList_append_sl _ rfl (.tmp 12) (.tmp 13) _ rfl w.heap.size 64 i0 _ 2 16 Try.underlying32 hi0 hz0 hz1 hz2 rfl (by omega) (.slice (some ⟨w.heap.size, 0, none⟩) 0 0) 0 [] rfl (own_made rfl (Nat.le_refl _)) lo2 up2 _ f.length cf _ rfl (hs.alloc hup2 _) (cCells_one f) f.length (by omega) _ rfl (by unfold maxLen; omega) (by omega) (by simp) ?_; intro Ao co w1 hown hg; have bb := ((Below.refl w.heap.size w).alloc (Nat.le_refl _) (.cells #[] 64)).grown hg (by simp) (fun k hk => by simp [Value.ownBlock] at hk; omega); have k0 : w1.cell? ⟨b, o, none⟩ = some (.int .i64 (M : Int)) := (by obtain ⟨b', o', e, _, hb', hc'⟩ := (HD.out.below bb hup).at_ (by omega); injection e with e; injection e with e1 e2; subst e1 e2; have := hc' 0 (by simp [intCells]); simpa [intCells] using this); clear hg)
  have HX : ∀ q : Nat × Nat, q = (w1.heap.size, w1.heap.size) → True := fun _ _ => trivial
  clear HX
  have hown := hown
  rw [← hnf] at hown hn ⊢
  have HN := Lib.hid hn
  have hRn : R.1.length = n := HRl.out.trans Hnf.out.symm
  have bb0 := bb
  have Hnf2 := Hnf
  clear hs HRl hRn Hnf hnf k0 HD hcut1 bb
  go_loopg [1, 8, 9] (L.length) (fun gh s1 s8 s9 wr => ∃ (i p N : Nat) (o : List (Int × Int)) (K : List Int) (D' : Option Addr) (dc' : Nat), gh = N ∧ Hid (N = K.length) ∧ i ≤ M ∧ s9 = .int .i64 i ∧ s8 = .int .i64 p ∧ s1 = .slice D' N dc' ∧ p ≤ n ∧ Hid (o.length = n) ∧ Hid (R = rRows (M - i) o p K) ∧
    wr.ownsRow w.heap.size 64 2 (.slice Ao n co) n (cCells o) ∧ Hid (Sl w lo up 1 D' N dc' (intCells K)) ∧ N ≤ 1000000 ∧ Hid (∀ x ∈ K, 0 ≤ x ∧ x ≤ 4611686018427387903) ∧ Below w.heap.size w wr)
  case atStart => exact ⟨0, 0, L.length, f, L, D1, _, rfl, Lib.hid rfl, Nat.zero_le _, rfl, rfl, rfl, Nat.zero_le _, Lib.hid (by have := Hnf2.out; omega), Lib.hid (by simpa using HR.out), hown, HD1, hL, H0, bb0⟩
  case round =>
    clear hown HD1 H0 bb0 HR
    obtain ⟨i, p, N, o, K, D', dc', hgh, hNK, hiM, rfl, rfl, rfl, hp, ho, hrec, hown, hsl, hNl, hK, bb⟩ := hrel
    have HG := Lib.hid hgh
    clear hgh
    by_cases hi : i < M
    rotate_left
    · obtain rfl : i = M := by omega
      have hfin := hrec.out
      rw [Nat.sub_self, rRows] at hfin
      have F := Lib.hid (rc_fin hfin ho.out hown hNK.out (hsl.out.below bb hup) bb)
      clear hrec hfin hown hsl hK bb ho
      go_wp2_with fail
      go_ret2
      exact F.out
    · obtain ⟨k, hk⟩ : ∃ k, M - i = k + 1 := ⟨M - i - 1, by omega⟩
      have hiI : (i : Int) < M := by omega
      by_cases h2 : N < 2
      · have hfin : R = (o, K) := by
          rw [hrec.out, hk]
          match K, hNK.out with
          | [], _ => rfl
          | [_], _ => rfl
          | _ :: _ :: _, h => simp at h; omega
        have F := Lib.hid (rc_fin hfin ho.out hown hNK.out (hsl.out.below bb hup) bb)
        have h2I : ¬ ((2 : Int) ≤ (N : Int)) := by omega
        clear hrec hfin hown hsl hK bb ho hk
        go_wp2_with fail
        go_ret2
        exact F.out
      · match K, hNK, hrec, hsl, hK with
        | [], hNK, _, _, _ => exact absurd hNK.out (by simp; omega)
        | [_], hNK, _, _, _ => exact absurd hNK.out (by simp; omega)
        | x :: y :: r, hNK, hrec, hsl, hK =>
          have h2I : (2 : Int) ≤ (N : Int) := by omega
          have h20 : (0 : Int) < (N : Int) := by omega
          have h21 : (1 : Int) < (N : Int) := by omega
          have hx := hK.out x (by simp)
          have hy := hK.out y (by simp)
          have hKr : Hid (∀ x ∈ r, 0 ≤ x ∧ x ≤ 4611686018427387903) := Lib.hid (fun z hz => hK.out z (by simp [hz]))
          have hrec1 := hrec.out
          have Hk := Lib.hid (by omega : k = M - (i + 1))
          rw [hk, rRows, ho.out] at hrec1
          obtain ⟨b2, o2, rfl, hcb⟩ := sli_cell (hsl.out.below bb hup) (by omega)
          have k0 : wr.cell? ⟨b2, o2, none⟩ = some (.int .i64 x) := hcb 0 (by simp)
          have k1 : wr.cell? ⟨b2, o2 + 1, none⟩ = some (.int .i64 y) := hcb 1 (by simp)
          have a1 := addr_add b2 o2 1
          obtain ⟨N2, hN2⟩ : ∃ N2, N2 = r.length := ⟨_, rfl⟩
          have hNN : N = N2 + 2 := by have := hNK.out; simp at this; omega
          have hNN1 : N2 ≤ N := by omega
          obtain ⟨D2, hcut2, hd2⟩ := cut_l Try.underlying88 hj0 hy1 hsl.out 2 N2 (2 : Int) rfl (by omega)
          have hd2 : Sl w lo up 1 D2 N2 (dc' - 2) (intCells r) := by simpa [intCells] using hd2
          have Hd2 := Lib.hid hd2
          have HNN := Lib.hid hNN
          have HN2 := Lib.hid hN2
          have hpI : (p : Int) ≤ n := by omega
          have hnI : (n : Int) ≤ 100000 := by omega
          have Hrec := Lib.hid hrec1
          clear hcb hrec hrec1 hsl hK hd2 hNN hN2 hk hNK
          by_cases t1 : (n : Int) - (p : Int) < x
          · have hfin := Hrec.out
            rw [if_pos t1] at hfin
            have F := Lib.hid (rc_fin hfin ho.out hown rfl (Sl.empty wr lo up 1) bb)
            clear Hrec hfin hown bb ho
            go_wp2_with fail
            go_ret2
            exact F.out
          · obtain ⟨X, rfl⟩ : ∃ X : Nat, x = (X : Int) := ⟨x.toNat, by omega⟩
            obtain ⟨P, hP⟩ : ∃ P : Nat, (p : Int) + (X : Int) = (P : Int) := ⟨p + X, by omega⟩
            have hPn : (P : Int) ≤ n := by omega
            have HP := Lib.hid (by omega : P = p + X)
            have hrec2 := Hrec.out
            rw [if_neg t1, hP, Int.toNat_natCast, ← HP.out] at hrec2
            by_cases t2 : (n : Int) - (P : Int) < y
            · rw [if_pos (.inl t2)] at hrec2
              have F := Lib.hid (rc_fin hrec2 ho.out hown rfl (Sl.empty wr lo up 1) bb)
              clear Hrec hrec2 hown bb ho
              go_wp2_with fail
              go_ret2
              exact F.out
            · obtain ⟨Y, rfl⟩ : ∃ Y : Nat, y = (Y : Int) := ⟨y.toNat, by omega⟩
              obtain ⟨Y2, hY2⟩ : ∃ Y2 : Nat, 2 * (Y : Int) = (Y2 : Int) := ⟨2 * Y, by omega⟩
              have HY2 := Lib.hid (by omega : Y2 = 2 * Y)
              have hYb : (Y2 : Int) ≤ 200000 := by omega
              have hYn : (Y : Int) ≤ 100000 := by omega
              rw [hY2, ← HN2.out, Int.toNat_natCast, ← HY2.out] at hrec2
              by_cases t3 : (N2 : Int) < (Y2 : Int)
              · rw [if_pos (.inr t3)] at hrec2
                have F := Lib.hid (rc_fin hrec2 ho.out hown rfl (Sl.empty wr lo up 1) bb)
                clear Hrec hrec2 hown bb ho
                go_wp2_with fail
                go_ret2
                exact F.out
              · rw [if_neg (by omega)] at hrec2
                obtain ⟨Wp, hWp⟩ : ∃ Wp, Wp = wPut Y o P r := ⟨_, rfl⟩
                rw [← hWp] at hrec2
                have HWp := Lib.hid hWp
                have Hrec2 := Lib.hid hrec2
                have hPY : P + Y ≤ n := by omega
                have hown0 := hown
                have bb0 := bb
                have ho0 := ho
                clear Hrec hrec2 hWp hown bb ho
                go_wp2_with fail
                go_loopg [11] Y (fun gh s11 w2 => ∃ (k : Nat) (o : List (Int × Int)), gh = Y - k ∧ k ≤ Y ∧ s11 = .int .i64 k ∧ Hid (o.length = n) ∧ Hid (Wp = wPut (Y - k) o (P + k) (r.drop (2 * k))) ∧ w2.ownsRow w.heap.size 64 2 (.slice Ao n co) n (cCells o) ∧ Below w.heap.size w w2)
                case atStart => exact ⟨0, o, rfl, Nat.zero_le _, rfl, ho0, Lib.hid (by simpa using HWp.out), hown0, bb0⟩
                case round =>
                  clear hown0 bb0 ho0 HWp k0 k1
                  obtain ⟨k, o, hg2, hkY, rfl, ho, hw, hown, bb⟩ := hrel
                  have HG2 := Lib.hid hg2
                  clear hg2
                  by_cases hkl : k < Y
                  · have hkI : (k : Int) < Y := by omega
                    obtain ⟨q, hq⟩ : ∃ q : Nat, 2 * (k : Int) = (q : Int) := ⟨2 * k, by omega⟩
                    have hqk : q = 2 * k := by omega
                    have hql : q + 1 < N2 := by have := HY2.out; omega
                    have hqr : 2 * k + 1 < r.length := by have := HN2.out; omega
                    have hqI : (q : Int) + 1 < N2 := by omega
                    have hqI0 : (q : Int) < N2 := by omega
                    obtain ⟨Q, hQ⟩ : ∃ Q : Nat, (P : Int) + (k : Int) = (Q : Int) := ⟨P + k, by omega⟩
                    have hQn : (Q : Int) < n := by omega
                    have hQn2 : Q < n := by omega
                    have hw2 := hw.out
                    rw [show Y - k = (Y - (k + 1)) + 1 from by omega, drop_two hqr, wPut, show P + k = Q from by omega] at hw2
                    obtain ⟨b3, o3, rfl, hcb⟩ := sli_cell (Hd2.out.below bb hup) (by omega)
                    have c0 : wr.cell? ⟨b3, o3 + q, none⟩ = some (.int .i64 (r[2 * k])) := by rw [hqk]; exact hcb (2 * k) (by omega)
                    have c1 : wr.cell? ⟨b3, o3 + (q + 1), none⟩ = some (.int .i64 (r[2 * k + 1])) := by rw [hqk]; exact hcb (2 * k + 1) hqr
                    have a3 := addr_add b3 o3 q
                    have a4 := addr_add b3 o3 (q + 1)
                    generalize r[2 * k] = u at *
                    generalize r[2 * k + 1] = v at *
                    have Hw2 := Lib.hid hw2
                    clear hw2 hw hcb hqk hqr hql hQn2
                    obtain ⟨go, rfl, hgb, hglt, ⟨u1, k1⟩, ⟨u2, k2'⟩, kf, hown11⟩ := own_setc (w := wr) hown (by rw [ho.out]; omega : Q < o.length) u v
                    have G11 := grownBy_setCells go [.int .i64 u, .int .i64 v] (Q * 2) wr
                    have bb11 : Below w.heap.size w (wr.setCells go (Q * 2) [.int .i64 u, .int .i64 v]) := Below.grown bb G11 bb.size (fun k e => by injection e with e; omega)
                    have Hown := Lib.hid hown11
                    have Hbb := Lib.hid bb11
                    have ag := addr_add go 0 (Q * 2)
                    have ag2 := addr_add go (Q * 2) 1
                    have hb3 : b3 < w.heap.size := by
                      obtain ⟨b', o', e, _, hb', _⟩ := Hd2.out.at_ (by omega)
                      injection e with e
                      injection e with e1 e2
                      omega
                    have hne : b3 ≠ go := by omega
                    clear hown11 G11 bb11 hown bb
                    generalize hW : wr.setCells go (Q * 2) [.int .i64 u, .int .i64 v] = W at *
                    simp only [World.setCells] at hW
                    have k1b : wr.cell? ⟨go, Q * 2, none⟩ = some u1 := k1
                    have k2b : wr.cell? ⟨go, Q * 2 + 1, none⟩ = some u2 := k2'
                    have kfb : ∀ i, wr.frozen? ⟨go, i, none⟩ = false := kf
                    have wq : IntKind.i64.wrap (q : Int) = q := IntWalk.i64_in _ (by omega)
                    have wq1 : IntKind.i64.wrap ((q : Int) + 1) = (q : Int) + 1 := IntWalk.i64_in _ (by omega)
                    have wQ : IntKind.i64.wrap (Q : Int) = Q := IntWalk.i64_in _ (by omega)
                    go_wp2_with fail
                    go_region
                    clear k1 k2' kf k1b k2b kfb wq1 wQ a3 a4 ag ag2 c0 c1
                    go_wp2_with fail
                    try rw [hW]
                    go_roundg (Y - (k + 1))
                    case measure => have := HG2.out; omega
                    case rel => exact ⟨k + 1, o.set Q (u, v), rfl, by omega, by go_num, Lib.hid (by rw [List.length_set]; exact ho.out), Lib.hid (by rw [Hw2.out, show P + (k + 1) = Q + 1 from by omega]), own_drew Hown.out, Hbb.out.drew⟩
                  · obtain rfl : k = Y := by omega
                    have hw2 := hw.out
                    rw [Nat.sub_self, wPut] at hw2
                    have Hw2 := Lib.hid hw2
                    clear hw2 hw
                    obtain ⟨Q, hQ⟩ : ∃ Q : Nat, (P : Int) + (k : Int) = (Q : Int) := ⟨P + k, by omega⟩
                    have HQ := Lib.hid (by omega : Q = P + k)
                    have hQn : Q ≤ n := by omega
                    obtain ⟨D3, hcut3, hd3⟩ := cut_l Try.underlying88 hj0 hy1 Hd2.out Y2 (N2 - Y2) (Y2 : Int) rfl (by omega)
                    have hd3 : Sl w lo up 1 D3 (N2 - Y2) (dc' - 2 - Y2) (intCells (r.drop Y2)) := by simpa [intCells] using hd3
                    have Hd3 := Lib.hid hd3
                    have hY2b : Y2 ≤ N2 := by omega
                    have wY2 : IntKind.i64.wrap (Y2 : Int) = Y2 := IntWalk.i64_in _ (by omega)
                    have hi1 : (i : Int) < 4611686018427387904 := by omega
                    clear hd3
                    go_wp2_with fail
                    go_roundg (N2 - Y2)
                    case measure => have := HG.out; have := HNN.out; omega
                    case rel => exact ⟨i + 1, Q, N2 - Y2, o, r.drop Y2, D3, _, rfl, Lib.hid (by rw [List.length_drop, ← HN2.out]), by omega, by go_num, by go_num, rfl, hQn, ho, Lib.hid (by rw [Hrec2.out, Hw2.out, HQ.out, ← Hk.out]), hown, Hd3, by omega, Lib.hid (fun x hx => hKr.out x (List.mem_of_mem_drop hx)), bb⟩
theorem rchanged_any {lo up lo2 up2 cf dc n : Nat} {Af D : Option Addr} {f : List (Int × Int)} {L : List Int} {w : World} (hs : Sl w lo2 up2 2 Af f.length cf (cCells f)) (hup2 : up2 ≤ w.heap.size) (hd : Sl w lo up 1 D n dc (intCells L)) (hup : up ≤ w.heap.size) (hnL : n = L.length)
    (hL : L.length ≤ 1000000) (h0 : ∀ x ∈ L, 0 ≤ x ∧ x ≤ 4611686018427387903) (hn : f.length ≤ 100000) :
    Calls Try.prog 68 #[.slice Af f.length cf, .slice D n dc] w (RetRC w lo up (rChg f L)) := by
  subst hnL
  cases L with
  | nil => exact rchanged_nil hs hup2 hd hup hn
  | cons m L => exact rchanged_cons hs hup2 hd hup (by simp only [List.length_cons] at hL; omega) (h0 m (List.mem_cons_self ..)) (fun x hx => h0 x (List.mem_cons_of_mem _ hx)) hn
end

/- The walk of the document's Apply: of a screen that may not be; of bytes that are no difference by their head. -/
section
open Go.RowKit
set_option linter.unusedVariables false
set_option linter.unusedSimpArgs false
attribute [local go_sem ↓] Go.wp_at_zero Go.wp_at_succ

theorem Scr.v_size (s : Scr) (C : Option Addr) (cc : Nat) (M : Option Addr) (cm : Nat) : (s.v C cc M cm).size = 16 := rfl
/-- No screen. -/
def zero16 : Array Value := #[.int .i64 0, .int .i64 0, .slice none 0 0, .int .i64 0, .int .i64 0, .int .i64 0, .int .i64 0, .int .i64 0, .bool false, .bool false, .bool false, .bool false, .int .i64 0, .int .i64 0, .int .i64 0, .slice none 0 0]
/-- What the document's Apply has ahead: its screen, and the result's place. -/
def BSt (w : World) (ca : Array Value) (W : World) : Prop := Below w.heap.size w W ∧ Blk W w.heap.size 35 ca ∧ Blk W (w.heap.size + 1) 35 zero16
section
variable {w W W' : World} {ca : Array Value} {g : Nat}
theorem BSt.grown (h : BSt w ca W) (hg : W.grownBy W' (some g)) (h3 : w.heap.size + 2 ≤ g) : BSt w ca W' := by
  obtain ⟨h1, h2, h4⟩ := h
  exact ⟨h1.grown hg (Nat.le_of_lt h2.lt) (fun k e => by cases e; omega), h2.grown hg (fun e => by injection e with e; omega), h4.grown hg (fun e => by injection e with e; omega)⟩
theorem BSt.lt (h : BSt w ca W) : w.heap.size + 2 ≤ W.heap.size := h.2.2.lt
theorem BSt.later (h : BSt w ca W) (hb : Below W.heap.size W W') : BSt w ca W' := h.grown (grown_below' (g := W.heap.size) hb) h.lt
theorem BSt.drewN (h : BSt w ca W) (k : Nat) : BSt w ca (W.drewN k) := ⟨⟨h.1.os, h.1.tape, h.1.output, h.1.size, h.1.block⟩, h.2⟩
theorem BSt.new (w : World) (ca : Array Value) : BSt w ca ((w.alloc (.cells ca 35)).alloc (.cells zero16 35)) :=
  ⟨((Below.refl w.heap.size w).alloc (Nat.le_refl _) _).alloc (by simp) _, (Blk.new w 35 ca rfl).alloc _, Blk.new _ 35 zero16 (by simp)⟩
end
theorem build35 (W : World) : (Instr.build 35 #[]).run Try.prog W = .ok (.agg zero16) W := run_build (P := Try.prog) W 35 #[] zero16 (by kernel_rfl)

set_option maxHeartbeats 16000000 in
set_option maxRecDepth 100000 in
theorem rapply_bad {lo up lo2 up2 : Nat} {s : Scr} {C M D : Option Addr} {cc cm dc : Nat} {d : List UInt8} {w : World} (hat : ScrAt w lo up s C cc M cm) (hup : up ≤ w.heap.size) (hd : Sl w lo2 up2 1 D d.length dc (byteCells d)) (hup2 : up2 ≤ w.heap.size) (hl : s.Len) (h : gOk s = false) :
    Calls Try.prog 28 #[.agg (s.v C cc M cm), .slice D d.length dc] w (RetAp w noScr 170) := by
  have HC := Lib.hid (fun W (b : Below w.heap.size w W) => by have := rcheck_any (hat.below b hup) (Nat.le_trans hup b.size) hl; rw [h] at this; exact this)
  have hs16 := Scr.v_size s C cc M cm
  generalize s.v C cc M cm = ca at *
  clear hat hl h hd
  have st0 := BSt.new w ca
  unfold zero16 at st0
  go_enter Try.func28, Try.ntmps28
  go_upto_region 1 with fail
  generalize hW0 : (w.alloc (.cells ca 35)).alloc (.cells #[.int .i64 0, .int .i64 0, .slice none 0 0, .int .i64 0, .int .i64 0, .int .i64 0, .int .i64 0, .int .i64 0, .bool false, .bool false, .bool false, .bool false, .int .i64 0, .int .i64 0, .int .i64 0, .slice none 0 0] 35) = W0 at *
  clear hW0
  have kst := bs16 st0.2.1 hs16
  go_wp2_with (((with_reducible refine wpList_ld2 kst ?_ ?_); rfl))
  refine (HC.out _ st0.1).mono ?_
  rintro e w1 ⟨rfl, b1⟩
  have st1 := st0.later b1
  clear b1 st0 kst HC
  obtain ⟨bbx, -, bz1⟩ := st1
  obtain ⟨W4, hst, B, hgr, hz4⟩ := scr_st bz1 rfl #[.int .i64 0, .int .i64 0, .slice none 0 0, .int .i64 0, .int .i64 0, .int .i64 0, .int .i64 0, .int .i64 0, .bool false, .bool false, .bool false, .bool false, .int .i64 0, .int .i64 0, .int .i64 0, .slice none 0 0] rfl rfl
  have bb4 := bbx.grown hgr (by have := bz1.lt; omega) (fun k e => by cases e; omega)
  clear bz1 bbx hgr
  go_wp2_with (((with_reducible refine wpList_st2 hst ?_ ?_); exact ⟨rfl, rfl⟩))
  exact bodyPost_ret (results_cell2 rfl _ rfl B rfl) rfl ⟨none, 0, none, 0, rfl, World.ownsRow_nil _ _ _ _, World.ownsRow_nil _ _ _ _, bb4⟩

set_option maxHeartbeats 16000000 in
set_option maxRecDepth 100000 in
theorem rapply_short {lo up lo2 up2 : Nat} {s : Scr} {C M D : Option Addr} {cc cm dc : Nat} {d : List UInt8} {w : World} (hat : ScrAt w lo up s C cc M cm) (hup : up ≤ w.heap.size) (hd : Sl w lo2 up2 1 D d.length dc (byteCells d)) (hup2 : up2 ≤ w.heap.size) (hl : s.Len) (h : gOk s = true) (hdl : d.length ≤ 1000000)
    (hsh : (vAll d).2 ≠ 0 ∨ (vAll d).1.length < 12 ∨ (vAll d).1.getD 0 0 < 1 ∨ 64 < (vAll d).1.getD 0 0 ∨ (vAll d).1.getD 1 0 < 1 ∨ 64 < (vAll d).1.getD 1 0) :
    Calls Try.prog 28 #[.agg (s.v C cc M cm), .slice D d.length dc] w (RetAp w noScr 190) := by
  have HC := Lib.hid (fun W (b : Below w.heap.size w W) => rcheck_ok (hat.below b hup) (Nat.le_trans hup b.size) hl h)
  have HSH := Lib.hid hsh
  have hs16 := Scr.v_size s C cc M cm
  generalize s.v C cc M cm = ca at *
  clear hat hl h hsh
  have HA := Lib.hid (fun W (b : Below w.heap.size w W) => rall_any (hd.below b hup2) (Nat.le_trans hup2 b.size) hdl)
  obtain ⟨⟨L, en⟩, hq⟩ : ∃ q, q = vAll d := ⟨_, rfl⟩
  rw [← hq] at HA HSH
  simp only at HSH
  clear hq hd
  have st0 := BSt.new w ca
  unfold zero16 at st0
  go_enter Try.func28, Try.ntmps28
  go_upto_region 1 with fail
  generalize hW0 : (w.alloc (.cells ca 35)).alloc (.cells #[.int .i64 0, .int .i64 0, .slice none 0 0, .int .i64 0, .int .i64 0, .int .i64 0, .int .i64 0, .int .i64 0, .bool false, .bool false, .bool false, .bool false, .int .i64 0, .int .i64 0, .int .i64 0, .slice none 0 0] 35) = W0 at *
  clear hW0
  have kst := bs16 st0.2.1 hs16
  go_wp2_with (((with_reducible refine wpList_ld2 kst ?_ ?_); rfl))
  refine (HC.out _ st0.1).mono ?_
  rintro e w1 ⟨rfl, b1⟩
  have st1 := st0.later b1
  clear b1 st0 kst HC
  go_wp2_with fail
  refine (HA.out _ st1.1).mono ?_
  rintro e w2 ⟨A, c, rfl, hown, b2⟩
  have st2 := st1.later b2
  have sl := Sl.of_own hown
  have z2 := st2.lt
  clear b2 st1 HA hown
  go_upto_region 4 with fail
  go_cut [56] (fun s44 wx => s44 = .bool true ∧ w2 = wx)
  case first =>
    by_cases h1 : en = 0
    rotate_left
    · have d1 : (en == 0) = false := by simpa using h1
      have d2 : (en != 0) = true := by simp [h1]
      clear h1 HSH
      go_wp2_with fail
      go_meet
      exact ⟨rfl, rfl⟩
    · subst h1
      by_cases h2 : L.length < 12
      · have h3 : (L.length : Int) < 12 := by omega
        go_wp2_with fail
        go_meet
        exact ⟨rfl, rfl⟩
      · have h3 : ¬ ((L.length : Int) < 12) := by omega
        obtain ⟨x0, x1, r, rfl⟩ : ∃ x0 x1 r, L = x0 :: x1 :: r := by
          match L, h2 with
          | x0 :: x1 :: r, _ => exact ⟨x0, x1, r, rfl⟩
          | [_], h => simp at h
          | [], h => simp at h
        have h5 : x0 < 1 ∨ 64 < x0 ∨ x1 < 1 ∨ 64 < x1 := by
          rcases HSH.out with h | h | h
          · exact absurd rfl h
          · exact absurd h h2
          · simpa using h
        obtain ⟨b, o, rfl, hb1, hb2, hc⟩ := sl.at_ (by simp)
        have k0 : w2.cell? ⟨b, o, none⟩ = some (.int .i64 x0) := by have := hc 0 (by simp [intCells]); simpa [intCells] using this
        have k1 : w2.cell? ⟨b, o + 1, none⟩ = some (.int .i64 x1) := by have := hc 1 (by simp [intCells]); simpa [intCells] using this
        have a1 := addr_add b o 1
        simp only [List.length_cons] at *
        generalize r.length + 1 + 1 = N at *
        have h6 : 12 ≤ (N : Int) := by omega
        have h6a : (0 : Int) < (N : Int) := by omega
        have h6b : (1 : Int) < (N : Int) := by omega
        have d3 : decide ((N : Int) < 12) = false := by simpa using h6
        clear hc sl HSH
        by_cases e0 : x0 < 1
        · clear h5
          go_wp2_with fail
          go_meet
          exact ⟨rfl, rfl⟩
        · by_cases e1 : 64 < x0
          · clear h5
            go_wp2_with fail
            go_meet
            exact ⟨rfl, rfl⟩
          · by_cases e2 : x1 < 1
            · clear h5
              go_wp2_with fail
              go_meet
              exact ⟨rfl, rfl⟩
            · have e3 : 64 < x1 := by omega
              clear h5
              go_wp2_with fail
              go_meet
              exact ⟨rfl, rfl⟩
  case rest =>
    obtain ⟨rfl, rfl⟩ := hcut
    obtain ⟨bbx, -, bz1⟩ := st2
    obtain ⟨W4, hst, B, hgr, hz4⟩ := scr_st bz1 rfl #[.int .i64 0, .int .i64 0, .slice none 0 0, .int .i64 0, .int .i64 0, .int .i64 0, .int .i64 0, .int .i64 0, .bool false, .bool false, .bool false, .bool false, .int .i64 0, .int .i64 0, .int .i64 0, .slice none 0 0] rfl rfl
    have bb4 := bbx.grown hgr (by have := bz1.lt; omega) (fun k e => by cases e; omega)
    clear bz1 bbx hgr
    go_wp2_with (((with_reducible refine wpList_st2 hst ?_ ?_); exact ⟨rfl, rfl⟩))
    exact bodyPost_ret (results_cell2 rfl _ rfl B rfl) rfl ⟨none, 0, none, 0, rfl, World.ownsRow_nil _ _ _ _, World.ownsRow_nil _ _ _ _, bb4⟩
end
end Go.Proofs.Ytfeeincglijmjaa
