/- The walk of StateSyncs. -/
import Derived.Test.YtfeeincglijmjaaTQ
import Derived.Test.YtfeeincglijmjaaTL
import Derived.Test.YtfeeincglijmjaaTI
import Derived.Deep.DeepCutAuto
import Derived.Deep.RegionHeld3
namespace Go.Proofs.Ytfeeincglijmjaa
open Go.RowKit
set_option linter.unusedVariables false
set_option linter.unusedSimpArgs false
attribute [local go_sem ↓] Go.wp_at_zero Go.wp_at_succ

theorem sep_old {w3 w5 : World} {S : Nat → Prop} {X : World → Nat → Prop} (G : Good X) (hX : X w3 w3.heap.size) (hb : Below w3.heap.size w3 w5) (hS : ∀ k, S k → w3.heap.size ≤ k) : Sep w5 S X := fun W hW =>
  G.more (G.kept (S := fun k => w3.heap.size ≤ k) hX ((Chg.below hb).trans (hW.mono hS)) (Nat.le_refl _) (fun k h => h)) hb.size
theorem own_is {w : World} {base s n : Nat} {e : TypeId} {v : Value} {xs : List Value} (h : w.ownsRow base e s v n xs) : ∃ A c, v = .slice A n c := by
  rcases h.2 with ⟨rfl, h0⟩ | ⟨g, cap, cur, rfl, _⟩
  · exact ⟨none, 0, by rw [h0]⟩
  · exact ⟨_, _, rfl⟩
theorem bs39 (w : World) (x : Shn) : (Instr.buildSlice 25 1 #[(0, .agg x.v)]).run Try.prog w = .ok (.slice (some ⟨w.heap.size, 0, none⟩) 1 1) (w.alloc (.cells x.v 39)) := by kernel_rfl
theorem wpList_bs39 {ops : Array Oper} {rest : List Oper} {dst : Option Tmp} {x : Operand} {ty : TypeId} {pos : String} {after : Array _} {a : Act} {w : World} {Q : Exit → Act → World → Prop} {y : Shn}
    (hx : a.eval x = .agg y.v) (h : wpList Try.prog ops Q rest (a.put dst (.slice (some ⟨w.heap.size, 0, none⟩) 1 1)) (w.alloc (.cells y.v 39))) : wpList Try.prog ops Q (⟨dst, .buildSlice 25 1 #[(0, x)], ty, pos, after, none⟩ :: rest) a w := by
  refine wpList_plain rfl fun K hK => ?_
  have := bs39 w y
  unfold Oper.wp execOp
  simp only [hx, Sem.run_bind, List.map_toArray, List.map_cons, List.map_nil, this, Result.andThen_ok]
  exact hK _ _ h
theorem Scs.at' {w : World} {up n c b o : Nat} {l : List Scn} (h : Scs w up (some ⟨b, o, none⟩) n c l) (i : Nat) (hi : i < l.length) : w.rangeAt b (o + i * 16) l[i].v.toList := by
  obtain ⟨b', o', e, _, hc⟩ := h.cell (by rw [h.len]; omega)
  injection e with e
  injection e with e1 e2
  subst e1 e2
  exact hc i hi
theorem Sl.cells_at0 {w : World} {lo hi s n c b o : Nat} {xs : List Value} (h : Sl w lo hi s (some ⟨b, o, none⟩) n c xs) : ∀ j u, xs[j]? = some u → w.cell? ((⟨b, o, none⟩ : Addr).add j) = some u := by
  intro j u hu
  have hj : j < xs.length := (List.getElem?_eq_some_iff.1 hu).1
  have hn : 0 < n := by
    rcases Nat.eq_zero_or_pos n with h0 | h0
    · have := h.len; rw [h0] at this; omega
    · exact h0
  obtain ⟨b', o', e, _, _, hc⟩ := h.at_ hn
  injection e with e
  injection e with e1 e2
  subst e1 e2
  rw [addr_add, hc j hj, hu]
theorem byte_at2 {lo up : Nat} {A : Option Addr} {n c : Nat} {bs : List UInt8} {w : World} (h : Sl w lo up 1 A n c (byteCells bs)) {i : Nat} (hi : i < n) : ∃ (b o : Nat), A = some ⟨b, o, none⟩ ∧ w.cell? ⟨b, o + i, none⟩ = some (.int .u8 (((bs.getD i 0).toNat : Nat) : Int)) := by
  obtain ⟨b, o, rfl, _, _, hc⟩ := h.at_ (by omega)
  have hl : n = bs.length := by have := h.len; rw [byteCells_length] at this; omega
  refine ⟨b, o, rfl, ?_⟩
  rw [hc i (by rw [byteCells_length]; omega), byteCells_at (by omega), List.getD_eq_getElem?_getD, List.getElem?_eq_getElem (by omega)]
  rfl
theorem make_is {m : List (Int × Scr)} {x y : Int × Scr} {z : Int} (hm : sCheck m = true) (hx : m.head? = some x) (hy : m.getLast? = some y) :
    (decide (m.length = 1) = true → dMake m z = (0, 0, [], false)) ∧ (decide (m.length = 1) = false → dMake m z = (x.1, y.1, (List.range (dM x y z)).map (dC x y z), true)) := by
  refine ⟨fun h => ?_, fun h => ?_⟩
  · unfold dMake
    rw [if_neg (fun h2 => h2.2 (of_decide_eq_true h))]
  · unfold dMake
    rw [if_pos ⟨hm, of_decide_eq_false h⟩, hx, hy]
    rfl

set_option maxHeartbeats 32000000 in
set_option maxRecDepth 100000 in
theorem syncs_any {up lo3 up3 : Nat} {A A3 : Option Addr} {n c n3 c3 : Nat} {l : List Scn} {bs : List UInt8} {x0 x1 x4 : Int} {w : World} (hr : Scs w up A n c l) (hup : up ≤ w.heap.size) (hn : n ≤ 9223372036854775807) (hb : Sl w lo3 up3 1 A3 n3 c3 (byteCells bs)) (hup3 : up3 ≤ w.heap.size) (hn3 : n3 ≤ 9223372036854775807) (h0 : 0 ≤ x0 ∧ x0 ≤ 255) (h1 : 0 ≤ x1 ∧ x1 ≤ 255) (h4 : 0 ≤ x4 ∧ x4 ≤ 255) :
    Calls Try.prog 3 #[.int .u8 x0, .int .u8 x1, .slice A n c, .slice A3 n3 c3, .int .u8 x4] w fun e w' => e = .returned (.bool true) ∧ Below w.heap.size w w' := by
  obtain ⟨i0, hi0, hz0, hz1, hz2⟩ := info_parts info39x
  have HA := Lib.hid (awake12_any w)
  have hlen := hr.len
  subst hlen
  have HR := Lib.hid (fun W (b : Below w.heap.size w W) => hr.below b hup)
  have HBy := Lib.hid (fun W (b : Below w.heap.size w W) => hb.below b hup3)
  obtain ⟨h00, h01⟩ := h0
  obtain ⟨h10, h11⟩ := h1
  obtain ⟨h40, h41⟩ := h4
  obtain ⟨a, ha⟩ : ∃ a, a = Int.tmod x0 9 := ⟨_, rfl⟩
  obtain ⟨b, hbb⟩ : ∃ b, b = Int.tmod x1 5 := ⟨_, rfl⟩
  obtain ⟨q, hqq⟩ : ∃ q, q = Int.tmod x4 100 := ⟨_, rfl⟩
  have ha2 : 0 ≤ a ∧ a ≤ 8 := by rw [ha, Int.tmod_eq_emod_of_nonneg h00]; omega
  have hb2 : 0 ≤ b ∧ b ≤ 4 := by rw [hbb, Int.tmod_eq_emod_of_nonneg h10]; omega
  have hq2 : 0 ≤ q ∧ q ≤ 99 := by rw [hqq, Int.tmod_eq_emod_of_nonneg h40]; omega
  have ha3 := ha.symm
  have hb3 := hbb.symm
  have hq3 := hqq.symm
  obtain ⟨ha4, ha5⟩ := ha2
  obtain ⟨hb4, hb5⟩ := hb2
  obtain ⟨hq4, hq5⟩ := hq2
  clear ha hbb hqq hr hb
  have hin : (inB (1 + a) 1 64 && inB (1 + b) 1 64) = true := by rw [Bool.and_eq_true, inB_true, inB_true]; omega
  have hgk := new_gok hin
  have HB := Lib.hid (fun W => begin_lo (w := W) hin (by have := gOk_len hgk; unfold Scr.Len; omega))
  obtain ⟨s0, hs0⟩ : ∃ s, s = newScr (1 + a) (1 + b) := ⟨_, rfl⟩
  rw [← hs0] at hgk HB
  have Hgk := Lib.hid hgk
  clear hs0 hgk hin
  obtain ⟨N, hN⟩ : ∃ N, N = min l.length 20 := ⟨_, rfl⟩
  go_enter Try.func3, Try.ntmps3
  go_wp2_with fail
  refine HA.out.mono ?_
  rintro e w1 ⟨rfl, b1⟩
  go_wp2_with fail
  refine (HB.out _).mono ?_
  rintro e w2 ⟨Am, cm, Km, rfl, hKm, o2, ok2, b2, -⟩
  have S2 := shs_of o2 ok2 rfl
  have bb2 := b1.trans (b2.mono b1.size)
  clear b1 b2 o2 ok2 HA
  go_wp2_with fail
  refine (HB.out _).mono ?_
  rintro e w3 ⟨Ac, cc, Kc, rfl, hKc, o3, ok3, b3, -⟩
  have S3 := shs_of o3 ok3 rfl
  have T3 := (S2.below b3 (Nat.le_refl _)).more b3.size
  have bb3 := bb2.trans (b3.mono bb2.size)
  have hKmI : ((Km.length : Int) != 1) = false := by rw [klen hKm]; rfl
  have hKcI : ((Kc.length : Int) != 1) = false := by rw [klen hKc]; rfl
  have HKl := Lib.hid (klen hKm)
  have HSO : Hid (SO 0 (20 + q) (Km.map Shn.p) (Kc.map Shn.p) (Km.map Shn.p) (0, 0, [])) := Lib.hid (by rw [hKm, hKc]; exact so_start Hgk.out)
  clear o3 ok3 b3 S2 bb2 HB hKm hKc
  go_upto_region 6 with fail
  clear hKmI hKcI
  have T3a := T3.sl.alloc (Nat.le_refl _) (.cells #[] 39)
  have hkl1 : Km.length ≤ 1 := by rw [HKl.out]; exact Nat.le_refl _
  have hcle : Km.length ≤ cm := T3.sl.le
  go_upto_region 7 with (at_builtin; refine wpList_append_sl _ rfl (.tmp 68) (.tmp 69) 25 rfl w3.heap.size 39 i0 _ 17 144 Try.underlying25 hi0 hz0 hz1 hz2 rfl (by omega) (.slice (some ⟨w3.heap.size, 0, none⟩) 0 0) 0 [] rfl (own_made rfl (Nat.le_refl _)) 0 w3.heap.size Am Km.length cm (shCells Km) rfl T3a (shCells_one _) Km.length (by omega) _ rfl (by unfold maxLen; omega) (by omega) (by simp) ?_; intro A4 c4 w4 own4 hg4)
  rw [List.nil_append] at own4
  have b34 : Below w3.heap.size w3 w4 := ((Below.refl _ _).alloc (Nat.le_refl _) _).grown hg4 (by simp) (fun k e => by cases e; exact Nat.le_refl _)
  have z34 := b34.size
  obtain ⟨w5, hst5, k5, b5, z5⟩ := prt_new w4 #[.int .i64 0, .int .i64 0, .slice none 0 0] rfl rfl
  have b35 := b34.trans (b5.mono z34)
  have zz3 := bb3.size
  have HI : Hid (SyI w w5 w4.heap.size Am cm Km Ac cc Kc A4 c4 Km (0, 0, [])) := Lib.hid (by
    have hS : ∀ k, SB A4 Km.length c4 w4.heap.size k → w3.heap.size ≤ k := fun k hk => by
      rcases hk with hk | rfl
      · exact (own4.lt k hk).1
      · exact z34
    have hm := sep_old (S := SB A4 Km.length c4 w4.heap.size) (good_shs _ _ _ _) T3 b35 hS
    exact ⟨hm, sep_old (good_shs _ _ _ _) S3 b35 hS, own_more (own_below own4 b5 (Nat.le_refl _)) zz3, fun W hW x hx => (hm W hW).ok x hx, ⟨none, 0, [], k5, World.ownsRow_nil _ _ _ _, Bs.nil _ _⟩, bb3.trans (b35.mono zz3), by omega⟩)
  generalize hgP : w4.heap.size = gP at *
  clear T3a T3 S3 own4 hg4 b34 k5 b5 b35 hkl1 hcle HKl
  go_upto_region 8 with (first | ((with_reducible refine wpList_stp hst5 ?_ ?_); exact ⟨rfl, rfl⟩))
  clear hst5
  go_wp2_with fail
  go_loopg [12, 14, 16, 18] N (fun gh s12 s14 s16 s18 wr => ∃ (i : Nat) (Am : Option Addr) (cm : Nat) (Km : List Shn) (Ac : Option Addr) (cc : Nat) (Kc : List Shn) (Aa : Option Addr) (ca : Nat) (Ka : List Shn) (p : Int × Int × List (List UInt8)), gh = N - i ∧ i ≤ N ∧ s12 = .slice Am Km.length cm ∧ s14 = .slice Ac Kc.length cc ∧ s16 = .slice Aa Ka.length ca ∧ s18 = .int .i64 i ∧ Hid (SyI w wr gP Am cm Km Ac cc Kc Aa ca Ka p) ∧ Hid (SO i (20 + q) (Km.map Shn.p) (Kc.map Shn.p) (Ka.map Shn.p) p) ∧ w5.heap.size ≤ wr.heap.size)
  case atStart => exact ⟨0, Am, cm, Km, Ac, cc, Kc, A4, c4, Km, (0, 0, []), by omega, Nat.zero_le _, rfl, rfl, rfl, rfl, HI, HSO, Nat.le_refl _⟩
  case round =>
    clear HI HSO
    obtain ⟨i, Am, cm, Km, Ac, cc, Kc, Aa, ca, Ka, p, hgh, hiN, rfl, rfl, rfl, rfl, hI, hO, hzr⟩ := hrel
    have HG := Lib.hid hgh
    clear hgh
    have z0 := hI.out.b.size
    by_cases h : i < N
    · have hil : i < l.length := by omega
      have hi20 : i < 20 := by omega
      have hilI : (i : Int) < l.length := by omega
      have hi20I : (i : Int) < 20 := by omega
      have hRw := HR.out _ hI.out.b
      obtain ⟨bl, ol, rfl, hbl, hcl⟩ := hRw.cell (by omega)
      have hci := hcl i hil
      have hyk := hRw.ok l[i] (List.getElem_mem hil)
      have HciW := Lib.hid (fun W (b : Below w.heap.size w W) => And.intro ((HR.out W b).at' i hil) ((HR.out W b).ok l[i] (List.getElem_mem hil)))
      have a1 := addr_add bl ol (i * 16)
      generalize l[i] = ys at *
      have HCk := check_any hyk.1 (Nat.le_trans hup z0) hyk.2
      have Hci := Lib.hid hci
      have Hyk := Lib.hid hyk
      obtain ⟨k0, k1, k2, k3, k4, k5, k6, k7, k8, k9, k10, k11, k12, k13, k14, k15⟩ := range_cells16 hci
      have ad0 := addr_add bl (ol + i * 16) 0
      have ad1 := addr_add bl (ol + i * 16) 1
      have ad2 := addr_add bl (ol + i * 16) 2
      have ad3 := addr_add bl (ol + i * 16) 3
      have ad4 := addr_add bl (ol + i * 16) 4
      have ad5 := addr_add bl (ol + i * 16) 5
      have ad6 := addr_add bl (ol + i * 16) 6
      have ad7 := addr_add bl (ol + i * 16) 7
      have ad8 := addr_add bl (ol + i * 16) 8
      have ad9 := addr_add bl (ol + i * 16) 9
      have ad10 := addr_add bl (ol + i * 16) 10
      have ad11 := addr_add bl (ol + i * 16) 11
      have ad12 := addr_add bl (ol + i * 16) 12
      have ad13 := addr_add bl (ol + i * 16) 13
      have ad14 := addr_add bl (ol + i * 16) 14
      have ad15 := addr_add bl (ol + i * 16) 15
      unfold Scr.v at HCk
      clear hRw hcl hci hyk
      go_upto_region 11 with fail
      go_cut [105] (fun s105 wx => ∃ q : Bool, s105 = .bool q ∧ Hid (sTake ys.s = !q) ∧ Below wr.heap.size wr wx)
      case first => as_aux_lemma =>
        clear HG HR HBy hI hO
        by_cases c1 : 200 < ys.s.cs.length
        · have c1' : (200 : Int) < (ys.s.cs.length : Int) := by omega
          go_wp2_with fail
          go_meet
          exact ⟨true, rfl, Lib.hid (by unfold sTake; simp; omega), Below.refl _ _⟩
        · have c1' : ¬ ((200 : Int) < (ys.s.cs.length : Int)) := by omega
          by_cases c2 : 200 < ys.s.ms.length
          · have c2' : (200 : Int) < (ys.s.ms.length : Int) := by omega
            go_wp2_with fail
            go_meet
            exact ⟨true, rfl, Lib.hid (by unfold sTake; simp; omega), Below.refl _ _⟩
          · have c2' : ¬ ((200 : Int) < (ys.s.ms.length : Int)) := by omega
            cases hg : gOk ys.s
            · rw [hg] at HCk
              simp only [Bool.false_eq_true, if_false] at HCk
              have Hg := Lib.hid hg
              have HCk := Lib.hid HCk
              clear hg
              go_wp2_with fail
              refine HCk.out.mono ?_
              rintro e w3 ⟨rfl, b3⟩
              go_wp2_with fail
              go_meet
              exact ⟨true, rfl, Lib.hid (by unfold sTake; rw [Hg.out]; simp), b3⟩
            · rw [hg] at HCk
              simp only [if_true] at HCk
              have Hg := Lib.hid hg
              have HCk := Lib.hid HCk
              clear hg
              go_wp2_with fail
              refine HCk.out.mono ?_
              rintro e w3 ⟨rfl, b3⟩
              go_wp2_with fail
              go_meet
              exact ⟨false, rfl, Lib.hid (by unfold sTake; rw [Hg.out]; simp; omega), b3⟩
      case rest => as_aux_lemma =>
        obtain ⟨q0, rfl, hq, b3⟩ := hcut
        rename World => wa
        have z3 := b3.size
        have hI := Lib.hid (hI.out.below b3)
        have Hci := Lib.hid (show wa.rangeAt bl (ol + i * 16) ys.v.toList from range_below Hci.out b3 (by omega))
        have Hyk := Lib.hid (Hyk.out.below b3 (by omega))
        clear k0 k1 k2 k3 k4 k5 k6 k7 k8 k9 k10 k11 k12 k13 k14 k15 ad0 ad1 ad2 ad3 ad4 ad5 ad6 ad7 ad8 ad9 ad10 ad11 ad12 ad13 ad14 ad15 HCk b3
        cases q0
        rotate_left
        · clear Hci Hyk
          go_wp2_with fail
          go_roundg (N - (i + 1))
          case measure => have := HG.out; omega
          case rel => exact ⟨i + 1, Am, cm, Km, Ac, cc, Kc, Aa, ca, Ka, p, rfl, by omega, rfl, rfl, rfl, by go_num, hI, Lib.hid hO.out.later, by omega⟩
        · obtain ⟨⟨hs1, hs2⟩, hgs⟩ : (ys.s.cs.length ≤ 200 ∧ ys.s.ms.length ≤ 200) ∧ gOk ys.s = true := by
            have := hq.out
            unfold sTake at this
            simpa only [Bool.and_eq_true, Bool.not_false, decide_eq_true_eq] using this
          obtain ⟨v, hv⟩ : ∃ v, v = (bs.getD i 0).toNat := ⟨_, rfl⟩
          have hv2 : v < 256 := by rw [hv]; exact UInt8.toNat_lt _
          obtain ⟨ll, hll⟩ : ∃ ll, ll = decide (n3 ≤ i ∨ v % 4 = 3) := ⟨_, rfl⟩
          obtain ⟨x, y, hx, hy, hys, hck, hsub, hyi, htop, hone, hctx, hSJ⟩ := so_push hO.out hgs hs1 hs2 hi20 ll
          obtain ⟨o1, ho1⟩ : ∃ o1, o1 = decide ((dPush (Km.map Shn.p) ys.s).length = 1) := ⟨_, rfl⟩
          rw [← ho1] at hctx hSJ
          have hmk := make_is (z := 20 + q) hck hx hy
          rw [← ho1] at hmk
          have HPu := Lib.hid (push_lo hI.out.m.now (Nat.le_refl _) (by have := (sCheck_parts hO.out.mok).2.1; rw [List.length_map] at this; omega) Hyk.out.1 (by omega) Hyk.out.2)
          have hlds : wa.rangeAt bl (ol + i * 16) (ys.s.v ys.C ys.cc ys.M ys.cm).toList ∧ (ys.s.v ys.C ys.cc ys.M ys.cm).size = 16 := ⟨Hci.out, rfl⟩
          have Hv := Lib.hid hv
          have Hll := Lib.hid hll
          have Ho1 := Lib.hid ho1
          have Hkal := Lib.hid hO.out.len
          have HX := Lib.hid (And.intro hx (And.intro hy (And.intro hys (And.intro hck (And.intro hsub (And.intro hyi (And.intro htop hone)))))))
          have HCt := Lib.hid hctx
          have HSJ := Lib.hid hSJ
          have HMk := Lib.hid hmk
          obtain ⟨P2, hP2⟩ : ∃ P2, P2 = dPush (Km.map Shn.p) ys.s := ⟨_, rfl⟩
          rw [← hP2] at HPu HX HMk Ho1
          clear hq hs1 hs2 hgs hv hll hx hy hys hck hsub hyi htop hone hctx hSJ ho1 hmk hP2 hO
          generalize hcy : ys.s.v ys.C ys.cc ys.M ys.cm = cy at *
          have Hcy := Lib.hid hcy
          clear hcy
          go_wp2_with (first | ((with_reducible refine wpList_lds hlds ?_ ?_); rfl))
          refine HPu.out.mono ?_
          rintro e w6 ⟨A6, c6, K6, rfl, hK6, o6, ok6, b6, lo6⟩
          have hI := Lib.hid (hI.out.setm b6 o6 ok6 (lo6 _ (Nat.le_refl _)))
          have z6 := b6.size
          have Hci := Lib.hid (show w6.rangeAt bl (ol + i * 16) ys.v.toList from range_below Hci.out b6 (by omega))
          have Hyk := Lib.hid (Hyk.out.below b6 (by omega))
          subst hK6
          clear HPu o6 ok6 b6 lo6 hlds Hcy
          have hK60 := (sCheck_parts HX.out.2.2.2.1).1
          have hK68 := (sCheck_parts HX.out.2.2.2.1).2.1
          rw [List.length_map] at hK60 hK68
          obtain ⟨b6, o6, k6, xl, xf, rfl, hb6, hkl6, hxl6, hxf6, hcl6, hcf6, -, hxm6, -⟩ := shs_ends hI.out.m.now hK60
          have e6 := map_last rfl hxl6 HX.out.2.1
          have Hxp : Hid (xl.p = y) := Lib.hid (by show (xl.num, xl.s) = y; rw [e6.1, e6.2])
          have am6 := addr_add b6 o6 (k6 * 17)
          have hk68 : k6 + 1 ≤ 8 := by omega
          have hk6e : (((k6 : Int) + 1) == 0) = false := beq_eq_false_iff_ne.2 (by omega)
          have hk6n : ¬ ((k6 : Int) + 1 = 0) := by omega
          rw [hkl6]
          have Hkl6 := Lib.hid hkl6
          have Hxm6 := Lib.hid hxm6
          have ha6 := hI.out.a
          have ha6' := own_alloc ha6 (.cells xl.v 39)
          have hka : Ka.length ≤ 21 := by have := Hkal.out; rw [List.length_map] at this; omega
          have hwk6 : IntKind.i64.wrap (k6 : Int) = k6 := IntWalk.i64_in _ (by omega)
          have hbw : w.heap.size ≤ w6.heap.size := by omega
          clear hxl6 hxf6 hcf6 e6 hxm6 hkl6 ha6
          have hsz17 : xl.v.size = 17 := rfl
          go_upto_region 15 with fail
          go_upto_region 16 with (first | ((with_reducible refine wpList_ldh hcl6 ?_ ?_); rfl) | ((with_reducible refine wpList_bs39 (y := xl) ?_ ?_); rfl) | (at_builtin; refine wpList_append_own_at _ rfl (.tmp 115) (.tmp 122) 25 rfl w.heap.size 39 i0 _ 17 144 Try.underlying25 hi0 hz0 hz1 hz2 rfl (by omega) (.slice Aa Ka.length ca) Ka.length (shCells Ka) rfl ha6' ⟨w6.heap.size, 0, none⟩ 1 1 (shCells [xl]) rfl rfl (Sl.cells_at0 (sl_shn w6 xl rfl)) (shCells_one _) (by unfold maxLen; omega) (by omega) (by simp; omega) ?_; intro v7 w7 own7 hg7 hnil hat7; obtain ⟨A7, c7, rfl⟩ := own_is own7))
          have hI := Lib.hid (show SyI w w7 gP _ c6 K6 Ac cc Kc A7 c7 (Ka ++ [xl]) p by
            refine SyI.app (hI.out.below ((Below.refl _ _).alloc (Nat.le_refl _) _)) Hxm6.out ?_ hg7 ?_
            · rw [List.length_append, shCells_append]
              exact own7
            · rw [List.length_append]
              exact hat7)
          have z7 := hg7.size
          rw [World.size_alloc] at z7
          have Hci := Lib.hid (show w7.rangeAt bl (ol + i * 16) ys.v.toList from (fun j u hj => by
            have h1 := range_below (B := w6.heap.size) Hci.out ((Below.refl _ _).alloc (Nat.le_refl _) (.cells xl.v 39)) (by omega) j u hj
            exact hg7.cell h1 (fun e => by have := (ha6'.lt _ e.symm).1; simp only at this; omega)))
          have Hyk := Lib.hid ((good_ok ⟨0, ys.s, ys.C, ys.cc, ys.M, ys.cm⟩).kept (S := fun k => Value.ownBlock (.slice Aa Ka.length ca) = some k) (Hyk.out.below ((Below.refl w6.heap.size w6).alloc (Nat.le_refl _) (.cells xl.v 39)) (by omega)) (Chg.grown hg7 (fun g e => e)) (by rw [World.size_alloc]; omega) (fun k hk => by have := (ha6'.lt k hk).1; omega))
          have HMake := make_any (z := 20 + q) hI.out.m.now (Nat.le_refl _) (by have := Hkl6.out; omega)
          obtain ⟨aa, ab, ps, okk, hmk, hps1, hps2⟩ : ∃ aa ab ps okk, dMake (K6.map Shn.p) (20 + q) = (aa, ab, ps, okk) ∧ (o1 = false → aa = x.1 ∧ ab = y.1 ∧ ps = (List.range (dM x y (20 + q))).map (dC x y (20 + q))) ∧ (o1 = true → ps = []) := by
            cases o1
            · exact ⟨_, _, _, _, HMk.out.2 rfl, fun _ => ⟨rfl, rfl, rfl⟩, fun h => by cases h⟩
            · exact ⟨_, _, _, _, HMk.out.1 rfl, (fun h => by cases h), fun _ => rfl⟩
          rw [hmk, Hkl6.out] at HMake
          have HMake := Lib.hid HMake
          have Hps := Lib.hid (And.intro hps1 hps2)
          clear own7 hnil hat7 hg7 hmk hps1 hps2 HMk ha6' hcl6 am6 hb6 hwk6 hsz17 hk6e hk6n
          go_wp2_with fail
          refine HMake.out.mono ?_
          rintro e w8 ⟨A8, c8, vs8, rfl, o8, bs8, b8⟩
          (try dsimp only at o8)
          (try dsimp only at bs8)
          (try dsimp only)
          obtain ⟨M, hM⟩ : ∃ M, M = ps.length := ⟨_, rfl⟩
          rw [← hM] at o8 ⊢
          have hM4 : M ≤ 4096 := by
            rw [hM]
            cases o1
            · rw [(Hps.out.1 rfl).2.2]; simp only [List.length_map, List.length_range]; exact (HCt.out rfl).hM
            · rw [Hps.out.2 rfl]; simp
          have hI8 := Lib.hid (hI.out.below b8)
          have z8 := b8.size
          have Hci := Lib.hid (show w8.rangeAt bl (ol + i * 16) ys.v.toList from range_below Hci.out b8 (by omega))
          have Hyk := Lib.hid (Hyk.out.below b8 (by omega))
          have HPs := Lib.hid (And.intro o8 bs8)
          have HM := Lib.hid hM
          have hM4I : (M : Int) ≤ 4096 := by omega
          clear HMake hI o8 bs8 b8 hM
          go_upto_region 17 with fail
          go_wp2_with fail
          go_loopg [14, 23] M (fun gh s14 s23 wr => ∃ (k : Nat) (Ac : Option Addr) (cc : Nat) (Kc : List Shn) (p : Int × Int × List (List UInt8)), gh = M - k ∧ k ≤ M ∧ s23 = .int .i64 k ∧ s14 = .slice Ac Kc.length cc ∧ Hid (SyI w wr gP (some ⟨b6, o6, none⟩) c6 K6 Ac cc Kc A7 c7 (Ka ++ [xl]) p) ∧ Hid (SJ (Ka.map Shn.p ++ [y]) (20 + q) x y ll o1 k (Kc.map Shn.p) p) ∧ Hid (wr.ownsRow w7.heap.size 23 1 (.slice A8 M c8) M vs8 ∧ Bs wr w7.heap.size vs8 ps) ∧ w8.heap.size ≤ wr.heap.size)
          case atStart => exact ⟨0, Ac, cc, Kc, p, by omega, Nat.zero_le _, rfl, rfl, hI8, HSJ, HPs, Nat.le_refl _⟩
          case round =>
            clear hI8 HSJ HPs
            obtain ⟨k, Ac, cc, Kc, p, hgh, hkM, rfl, rfl, hI, hJ, hPs, hz8⟩ := hrel
            have HG2 := Lib.hid hgh
            clear hgh
            by_cases hk : k < M
            · have ho1 : o1 = false := by
                cases o1
                · rfl
                · have := Hps.out.2 rfl
                  have h2 := HM.out
                  rw [this] at h2
                  simp at h2
                  omega
              subst ho1
              have HC0 := Lib.hid (HCt.out rfl)
              have hkI : (k : Int) < M := by omega
              go_upto_region 20 with fail
              go_cut [155] (fun s155 wx => ∃ q0 : Bool, s155 = .bool q0 ∧ Hid (q0 = true → ll = false) ∧ wr = wx)
              case first => as_aux_lemma =>
                by_cases hi3 : i < n3
                · obtain ⟨ba, oa, rfl, hcv⟩ := byte_at2 (HBy.out _ hI.out.b) hi3
                  rw [← Hv.out] at hcv
                  have hi3I : (i : Int) < n3 := by omega
                  obtain ⟨k3, hk3⟩ : ∃ k3, k3 = k % 3 := ⟨_, rfl⟩
                  obtain ⟨v4, hv4⟩ : ∃ v4, v4 = v % 4 := ⟨_, rfl⟩
                  have hr1 : Int.tmod (k : Int) 3 = k3 := by rw [Int.tmod_eq_emod_of_nonneg (by omega), hk3]; omega
                  have hr2 : Int.tmod (v : Int) 4 = v4 := by rw [Int.tmod_eq_emod_of_nonneg (by omega), hv4]; omega
                  have hvI : (v : Int) ≤ 255 := by omega
                  have ac1 := addr_add ba oa i
                  have Hk3 := Lib.hid (And.intro hk3 hv4)
                  clear hk3 hv4
                  by_cases he : k3 = v4
                  · subst he
                    go_wp2_with fail
                    go_meet
                    exact ⟨true, rfl, Lib.hid (fun _ => by rw [Hll.out]; have := Hk3.out; exact decide_eq_false (by omega)), rfl⟩
                  · have heI : ((k3 : Int) == (v4 : Int)) = false := beq_eq_false_iff_ne.2 (by omega)
                    have heI2 : ¬ ((k3 : Int) = (v4 : Int)) := by omega
                    go_wp2_with fail
                    go_meet
                    exact ⟨false, rfl, Lib.hid (fun h => by cases h), rfl⟩
                · have hi3I : ¬ ((i : Int) < n3) := by omega
                  go_wp2_with fail
                  go_meet
                  exact ⟨false, rfl, Lib.hid (fun h => by cases h), rfl⟩
              case rest => as_aux_lemma =>
                obtain ⟨q0, rfl, hq0, rfl⟩ := hcut
                cases q0
                rotate_left
                · have hl0 := hq0.out rfl
                  subst hl0
                  go_wp2_with fail
                  go_roundg (M - (k + 1))
                  case measure => have := HG2.out; omega
                  case rel => exact ⟨k + 1, Ac, cc, Kc, p, rfl, by omega, by go_num, rfl, hI, Lib.hid hJ.out.skip, hPs, hz8⟩
                · clear hq0
                  obtain ⟨ea, eb, ep⟩ := Hps.out.1 rfl
                  have hMd : M = dM x y (20 + q) := by rw [HM.out, ep]; simp
                  subst ea eb
                  obtain ⟨⟨qB, qN, qG⟩, d1, oo, hcol, hcase⟩ := sj_step HC0.out hJ.out (by rw [← hMd]; exact hk)
                  have hBs : Bs wr w7.heap.size vs8 ((List.range M).map (cPart (dD x y) (cSz (20 + q)) M)) := by
                    have := hPs.out.2
                    rw [ep] at this
                    rw [hMd]
                    exact this
                  obtain ⟨b8, o8, rfl, hb81, hb82, -⟩ := (Sl.of_own hPs.out.1).at_ (by omega)
                  obtain ⟨Ap, cp, kpt, slp⟩ := parts_at hPs.out.1 hBs k hk
                  have hpl : (cPart (dD x y) (cSz (20 + q)) M k).length ≤ 3000 := by have := cSz_bnd (20 + q); have := cPart_le (l := dD x y) (s := cSz (20 + q)) (m := M) (k := k); omega
                  have hpte : cPart (dD x y) (cSz (20 + q)) M k = dC x y (20 + q) k := by rw [hMd]; rfl
                  have hpb := hJ.out.pi.bnd
                  obtain ⟨pB, pN, pG⟩ := p
                  simp only at hcol hpb
                  rw [← hpte] at hcol
                  generalize cPart (dD x y) (cSz (20 + q)) M k = pt at *
                  obtain ⟨Aq, cq, vq, kq, oq, bq⟩ := hI.out.p
                  have HC := Lib.hid (fun W (b : Below wr.heap.size wr W) => (show Calls Try.prog 17 #[.agg #[.int .i64 pB, .int .i64 pN, .slice Aq pG.length cq], .int .i64 x.1, .int .i64 y.1, .slice Ap pt.length cp] W (RetCo W ((qB, qN, qG), d1, oo)) by
                    rw [← hcol]
                    exact collect_own (own_below oq b (Nat.le_refl _)) (bq.below b (Nat.le_refl _)) (slp.below b (Nat.le_refl _)) b.size (by have := hpb.1; omega) hpb.2 hpl))
                  have HS := Lib.hid (fun W (b : Below wr.heap.size wr W) => (show Hid (W.rangeAt gP 0 (#[.int .i64 pB, .int .i64 pN, .slice Aq pG.length cq] : Array Value).toList) ∧ W.cell? ⟨b8, o8 + k, none⟩ = some (.slice Ap pt.length cp) from
                    ⟨Lib.hid (blk_range (kq.later b)), (b.cell (p := ⟨b8, o8 + k, none⟩) hb82).trans kpt⟩))
                  have ad8 := addr_add b8 o8 k
                  have hwk : IntKind.i64.wrap (k : Int) = k := IntWalk.i64_in _ (by omega)
                  have b00 : Below wr.heap.size wr wr.drew := (Below.refl _ _).drew
                  have Hcase := Lib.hid hcase
                  have HJc := Lib.hid hJ.out.ck
                  have HMd := Lib.hid hMd
                  have Hgy := Lib.hid (sdiff_len HC0.out.gx HC0.out.gy)
                  have Hxy := Lib.hid (And.intro HC0.out.y0 (And.intro HC0.out.y1 HC0.out.top))
                  clear hcol hcase hBs kpt slp hpl hpte hpb kq oq bq hMd ep HC0 hJ
                  go_upto_region 21 with fail
                  go_cut [24, 25, 26] (fun s24 s25 s26 wx => ∃ (g : Nat) (D : Option Addr) (cd : Nat), s24 = .pointer (some ⟨g, 0, none⟩) ∧ s25 = .slice D d1.length cd ∧ s26 = .bool oo ∧ PBox wx wr.heap.size g (qB, qN, qG) ∧ wx.ownsRow wr.heap.size 5 1 (.slice D d1.length cd) d1.length (byteCells d1) ∧ Below wr.heap.size wr wx ∧ wr.heap.size ≤ g)
                  case first => as_aux_lemma =>
                    clear HG HR HBy hI Hci Hyk HG2 Hcase Hps HM hPs HX HCt Hll Hv
                    refine wp_region_noPanic ?_
                    refine wp_region_held_drew (S := (fun w' : World => Hid (w'.rangeAt gP 0 (#[.int .i64 pB, .int .i64 pN, .slice Aq pG.length cq] : Array Value).toList) ∧ w'.cell? ⟨b8, o8 + k, none⟩ = some (.slice Ap pt.length cp))) (by kernel_rfl) (by (try dsimp only); exact HS.out _ b00) (fun hHeld => ?_)
                    refine wpAnyH_take (i := 0) (oi := { dst := some 157, op := Op.load 31 (Operand.tmp 17), type := 31, pos := "law.go:131", after := #[], guard := none }) (v := .agg #[.int .i64 pB, .int .i64 pN, .slice Aq pG.length cq]) rfl (by kernel_rfl) (by kernel_rfl) (by kernel_rfl) (fun _ _ _ h => h) (Or.inl ⟨by rfl, fun w hSw => exec_ldp hSw.1 rfl rfl⟩) (by assumption) ?_
                    try simp only [Act.put, List.setIfInBounds_toArray, List.set_cons_zero, List.set_cons_succ]
                    refine wpAnyH_take (i := 1) (oi := { dst := some 158, op := Op.move (Operand.tmp 19), type := 3, pos := "law.go:131", after := #[], guard := none }) (v := ?_) rfl (by kernel_rfl) (by kernel_rfl) (by kernel_rfl) (fun _ _ _ h => h) (Or.inl ⟨by rfl, ?_⟩) (by assumption) ?_
                    rotate_left
                    · (intro w hSw; (try dsimp only at hSw); go_simp); (try with_reducible rfl)
                    try simp only [Act.put, List.setIfInBounds_toArray, List.set_cons_zero, List.set_cons_succ]
                    refine wpAnyH_take (i := 2) (oi := { dst := some 159, op := Op.move (Operand.tmp 20), type := 3, pos := "law.go:131", after := #[], guard := none }) (v := ?_) rfl (by kernel_rfl) (by kernel_rfl) (by kernel_rfl) (fun _ _ _ h => h) (Or.inl ⟨by rfl, ?_⟩) (by assumption) ?_
                    rotate_left
                    · (intro w hSw; (try dsimp only at hSw); go_simp); (try with_reducible rfl)
                    try simp only [Act.put, List.setIfInBounds_toArray, List.set_cons_zero, List.set_cons_succ]
                    refine wpAnyH_take (i := 3) (oi := { dst := some 160, op := Op.move (Operand.tmp 21), type := 29, pos := "law.go:131", after := #[], guard := none }) (v := ?_) rfl (by kernel_rfl) (by kernel_rfl) (by kernel_rfl) (fun _ _ _ h => h) (Or.inl ⟨by rfl, ?_⟩) (by assumption) ?_
                    rotate_left
                    · (intro w hSw; (try dsimp only at hSw); go_simp); (try with_reducible rfl)
                    try simp only [Act.put, List.setIfInBounds_toArray, List.set_cons_zero, List.set_cons_succ]
                    refine wpAnyH_take (i := 4) (oi := { dst := some 161, op := Op.move (Operand.tmp 23), type := 3, pos := "law.go:131", after := #[], guard := none }) (v := ?_) rfl (by kernel_rfl) (by kernel_rfl) (by kernel_rfl) (fun _ _ _ h => h) (Or.inl ⟨by rfl, ?_⟩) (by assumption) ?_
                    rotate_left
                    · (intro w hSw; (try dsimp only at hSw); go_simp); (try with_reducible rfl)
                    try simp only [Act.put, List.setIfInBounds_toArray, List.set_cons_zero, List.set_cons_succ]
                    refine wpAnyH_take (i := 5) (oi := { dst := some 162, op := Op.indexAddr 29 (Operand.tmp 160) (Operand.tmp 161), type := 0, pos := "law.go:131", after := #[{ on := 3, ground := Ground.data }, { on := 4, ground := Ground.data }], guard := none }) (v := ?_) rfl (by kernel_rfl) (by kernel_rfl) (by kernel_rfl) (fun _ _ _ h => h) (Or.inl ⟨by rfl, ?_⟩) (by assumption) ?_
                    rotate_left
                    · (intro w hSw; (try dsimp only at hSw); go_simp); (try with_reducible rfl)
                    try simp only [Act.put, List.setIfInBounds_toArray, List.set_cons_zero, List.set_cons_succ]
                    refine wpAnyH_take (i := 6) (oi := { dst := some 163, op := Op.load 23 (Operand.tmp 162), type := 23, pos := "law.go:131", after := #[{ on := 5, ground := Ground.data }], guard := none }) (v := ?_) rfl (by kernel_rfl) (by kernel_rfl) (by kernel_rfl) (fun _ _ _ h => h) (Or.inl ⟨by rfl, ?_⟩) (by assumption) ?_
                    rotate_left
                    · (intro w hSw; (try dsimp only at hSw); go_simp); (try with_reducible rfl)
                    try simp only [Act.put, List.setIfInBounds_toArray, List.set_cons_zero, List.set_cons_succ]
                    refine wpAnyH_ready (rs := [7, 12]) (by kernel_rfl) (by simp) ?_
                    refine AllReadyH.cons (o := { dst := some 164, op := Op.call { callee := Callee.value (Operand.func 17), args := #[Operand.tmp 157, Operand.tmp 158, Operand.tmp 159, Operand.tmp 163], argTypes := #[31, 3, 3, 23] }, type := 42, pos := "law.go:131", after := #[{ on := 0, ground := Ground.data }, { on := 1, ground := Ground.data }, { on := 2, ground := Ground.data }, { on := 6, ground := Ground.data }], guard := none }) rfl (fun K hK => ?_) (AllReadyH.cons (o := { dst := some 24, op := Op.alloc 31, type := 0, pos := "law.go:131", after := #[], guard := none }) rfl (fun K hK => ?_) AllReadyH.nil)
                    · go_simp
                      refine (HC.out _ b00).mono ?_
                      rintro e w5 ⟨A5, c5, vs5, D5, cd5, rfl, o5, bs5, od5, hb5⟩; (try dsimp only at o5); (try dsimp only at bs5); (try dsimp only at od5); (try dsimp only)
                      have b05 : Below wr.heap.size wr w5 := b00.trans (hb5.mono (Nat.le_refl _))
                      refine hK.out _ _ (by (try dsimp only); exact HS.out _ b05) (fun hHeld => ?_)
                      clear hK K
                      try simp only [Act.put, List.setIfInBounds_toArray, List.set_cons_zero, List.set_cons_succ]
                      refine wpAnyH_take (i := 8) (oi := { dst := some 156, op := Op.move (Operand.tmp 164), type := 42, pos := "law.go:131", after := #[{ on := 7, ground := Ground.data }], guard := none }) (v := ?_) rfl (by kernel_rfl) (by kernel_rfl) (by kernel_rfl) (fun _ _ _ h => h) (Or.inl ⟨by rfl, ?_⟩) (by assumption) ?_
                      rotate_left
                      · (intro w hSw; (try dsimp only at hSw); go_simp); (try with_reducible rfl)
                      try simp only [Act.put, List.setIfInBounds_toArray, List.set_cons_zero, List.set_cons_succ]
                      refine wpAnyH_take (i := 9) (oi := { dst := some 165, op := Op.extract (Operand.tmp 156) 0, type := 31, pos := "law.go:131", after := #[{ on := 8, ground := Ground.data }], guard := none }) (v := ?_) rfl (by kernel_rfl) (by kernel_rfl) (by kernel_rfl) (fun _ _ _ h => h) (Or.inl ⟨by rfl, ?_⟩) (by assumption) ?_
                      rotate_left
                      · (intro w hSw; (try dsimp only at hSw); go_simp); (try with_reducible rfl)
                      try simp only [Act.put, List.setIfInBounds_toArray, List.set_cons_zero, List.set_cons_succ]
                      refine wpAnyH_take (i := 10) (oi := { dst := some 166, op := Op.extract (Operand.tmp 156) 1, type := 23, pos := "law.go:131", after := #[{ on := 8, ground := Ground.data }, { on := 13, ground := Ground.gcOnly Departure.lateStores }], guard := none }) (v := ?_) rfl (by kernel_rfl) (by kernel_rfl) (by kernel_rfl) (fun _ _ _ h => h) (Or.inl ⟨by rfl, ?_⟩) (by assumption) ?_
                      rotate_left
                      · (intro w hSw; (try dsimp only at hSw); go_simp); (try with_reducible rfl)
                      try simp only [Act.put, List.setIfInBounds_toArray, List.set_cons_zero, List.set_cons_succ]
                      refine wpAnyH_take (i := 11) (oi := { dst := some 167, op := Op.extract (Operand.tmp 156) 2, type := 4, pos := "law.go:131", after := #[{ on := 8, ground := Ground.data }, { on := 14, ground := Ground.gcOnly Departure.lateStores }], guard := none }) (v := ?_) rfl (by kernel_rfl) (by kernel_rfl) (by kernel_rfl) (fun _ _ _ h => h) (Or.inl ⟨by rfl, ?_⟩) (by assumption) ?_
                      rotate_left
                      · (intro w hSw; (try dsimp only at hSw); go_simp); (try with_reducible rfl)
                      try simp only [Act.put, List.setIfInBounds_toArray, List.set_cons_zero, List.set_cons_succ]
                      refine wpAnyH_ready (rs := [12]) (by kernel_rfl) (by simp) ?_
                      refine AllReadyH.cons (o := { dst := some 24, op := Op.alloc 31, type := 0, pos := "law.go:131", after := #[], guard := none }) rfl (fun K hK => ?_) AllReadyH.nil
                      go_simp
                      have b6 := b05.alloc b05.size (.cells #[.int .i64 qB, .int .i64 qN, .slice A5 qG.length c5] 31)
                      refine hK.out _ _ (by (try dsimp only); exact HS.out _ (b05.alloc b05.size _)) (fun hHeld => ?_)
                      clear hK K
                      try simp only [Act.put, List.setIfInBounds_toArray, List.set_cons_zero, List.set_cons_succ]
                      refine wpAnyH_ready (rs := [13]) (by kernel_rfl) (by simp) ?_
                      refine AllReadyH.cons (o := { dst := none, op := Op.store 31 (Operand.tmp 24) (Operand.tmp 165), type := 0, pos := "law.go:131", after := #[{ on := 12, ground := Ground.data }, { on := 9, ground := Ground.data }, { on := 7, ground := Ground.chain }, { on := 0, ground := Ground.phase }, { on := 1, ground := Ground.phase }, { on := 2, ground := Ground.phase }, { on := 3, ground := Ground.phase }, { on := 4, ground := Ground.phase }, { on := 5, ground := Ground.phase }, { on := 6, ground := Ground.phase }, { on := 7, ground := Ground.phase }, { on := 8, ground := Ground.phase }, { on := 9, ground := Ground.phase }, { on := 10, ground := Ground.textOnly Departure.lateStores }, { on := 11, ground := Ground.textOnly Departure.lateStores }, { on := 12, ground := Ground.phase }], guard := none }) rfl (fun K hK => ?_) AllReadyH.nil
                      go_simp
                      skip
                      refine hK.out _ _ (by (try dsimp only); exact HS.out _ b6) (fun hHeld => ?_)
                      clear hK K
                      try simp only [Act.put, List.setIfInBounds_toArray, List.set_cons_zero, List.set_cons_succ]
                      refine wpAnyH_take (i := 14) (oi := { dst := some 25, op := Op.assign (Operand.tmp 166), type := 23, pos := "law.go:131", after := #[{ on := 10, ground := Ground.data }, { on := 13, ground := Ground.chain }, { on := 0, ground := Ground.phase }, { on := 1, ground := Ground.phase }, { on := 2, ground := Ground.phase }, { on := 3, ground := Ground.phase }, { on := 4, ground := Ground.phase }, { on := 5, ground := Ground.phase }, { on := 6, ground := Ground.phase }, { on := 7, ground := Ground.phase }, { on := 8, ground := Ground.phase }, { on := 9, ground := Ground.phase }, { on := 10, ground := Ground.phase }, { on := 11, ground := Ground.textOnly Departure.lateStores }, { on := 12, ground := Ground.phase }, { on := 13, ground := Ground.phase }], guard := none }) (v := ?_) rfl (by kernel_rfl) (by kernel_rfl) (by kernel_rfl) (fun _ _ _ h => h) (Or.inl ⟨by rfl, ?_⟩) (by assumption) ?_
                      rotate_left
                      · (intro w hSw; (try dsimp only at hSw); go_simp); (try with_reducible rfl)
                      try simp only [Act.put, List.setIfInBounds_toArray, List.set_cons_zero, List.set_cons_succ]
                      refine wpAnyH_take (i := 15) (oi := { dst := some 26, op := Op.assign (Operand.tmp 167), type := 4, pos := "law.go:131", after := #[{ on := 11, ground := Ground.data }, { on := 14, ground := Ground.chain }, { on := 0, ground := Ground.phase }, { on := 1, ground := Ground.phase }, { on := 2, ground := Ground.phase }, { on := 3, ground := Ground.phase }, { on := 4, ground := Ground.phase }, { on := 5, ground := Ground.phase }, { on := 6, ground := Ground.phase }, { on := 7, ground := Ground.phase }, { on := 8, ground := Ground.phase }, { on := 9, ground := Ground.phase }, { on := 10, ground := Ground.phase }, { on := 11, ground := Ground.phase }, { on := 12, ground := Ground.phase }, { on := 13, ground := Ground.phase }, { on := 14, ground := Ground.phase }], guard := none }) (v := ?_) rfl (by kernel_rfl) (by kernel_rfl) (by kernel_rfl) (fun _ _ _ h => h) (Or.inl ⟨by rfl, ?_⟩) (by assumption) ?_
                      rotate_left
                      · (intro w hSw; (try dsimp only at hSw); go_simp); (try with_reducible rfl)
                      try simp only [Act.put, List.setIfInBounds_toArray, List.set_cons_zero, List.set_cons_succ]
                      refine wpAnyH_done (by kernel_rfl) ?_ _
                      refine NoPanic.normal ?_
                      have ⟨PB, OD⟩ := RetCo.box2 (q := (qB, qN, qG)) (d := d1) (w := wr.drew) o5 bs5 od5
                      have F := Lib.hid (show PBox (w5.alloc (.cells #[.int .i64 qB, .int .i64 qN, .slice A5 qG.length c5] 31)) wr.heap.size w5.heap.size (qB, qN, qG) ∧ (w5.alloc (.cells #[.int .i64 qB, .int .i64 qN, .slice A5 qG.length c5] 31)).ownsRow wr.heap.size 5 1 (.slice D5 d1.length cd5) d1.length (byteCells d1) ∧ Below wr.heap.size wr (w5.alloc (.cells #[.int .i64 qB, .int .i64 qN, .slice A5 qG.length c5] 31)) ∧ wr.heap.size ≤ w5.heap.size from ⟨PB, OD, b6, b05.size⟩)
                      clear PB OD b6 hb5 o5 bs5 od5 HC
                      go_wp2_with fail
                      go_meet
                      exact ⟨_, D5, cd5, rfl, rfl, rfl, F.out⟩
                    · have b0a := b00.alloc (Nat.le_refl _) (.cells #[.int .i64 0, .int .i64 0, .slice none 0 0] 31)
                      go_simp
                      refine hK.out _ _ (by (try dsimp only); exact HS.out _ b0a) (fun hHeld => ?_)
                      clear hK K
                      try simp only [Act.put, List.setIfInBounds_toArray, List.set_cons_zero, List.set_cons_succ]
                      have kz : Blk (wr.drew.alloc (.cells #[.int .i64 0, .int .i64 0, .slice none 0 0] 31)) wr.heap.size 31 #[.int .i64 0, .int .i64 0, .slice none 0 0] := Blk.new wr.drew 31 #[.int .i64 0, .int .i64 0, .slice none 0 0] rfl
                      have ha : wr.heap.size + 1 ≤ (wr.drew.alloc (.cells #[.int .i64 0, .int .i64 0, .slice none 0 0] 31)).heap.size := by rw [World.size_alloc]; exact Nat.le_refl _
                      refine wpAnyH_ready (rs := [7]) (by kernel_rfl) (by simp) ?_
                      refine AllReadyH.cons (o := { dst := some 164, op := Op.call { callee := Callee.value (Operand.func 17), args := #[Operand.tmp 157, Operand.tmp 158, Operand.tmp 159, Operand.tmp 163], argTypes := #[31, 3, 3, 23] }, type := 42, pos := "law.go:131", after := #[{ on := 0, ground := Ground.data }, { on := 1, ground := Ground.data }, { on := 2, ground := Ground.data }, { on := 6, ground := Ground.data }], guard := none }) rfl (fun K hK => ?_) AllReadyH.nil
                      go_simp
                      refine (HC.out _ b0a).mono ?_; rintro e w5 ⟨A5, c5, vs5, D5, cd5, rfl, o5, bs5, od5, hb5⟩; (try dsimp only at o5); (try dsimp only at bs5); (try dsimp only at od5); (try dsimp only); have b05 : Below wr.heap.size wr w5 := b0a.trans (hb5.mono (by omega)); have kz5 := kz.later hb5; obtain ⟨w6, hst6, k6, g6, z6⟩ := prt_st kz5 rfl #[.int .i64 qB, .int .i64 qN, .slice A5 qG.length c5] rfl rfl; have b6 := b05.grown g6 b05.size (fun k e => by cases e; exact Nat.le_refl _)
                      refine hK.out _ _ (by (try dsimp only); exact HS.out _ b05) (fun hHeld => ?_)
                      clear hK K
                      try simp only [Act.put, List.setIfInBounds_toArray, List.set_cons_zero, List.set_cons_succ]
                      refine wpAnyH_take (i := 8) (oi := { dst := some 156, op := Op.move (Operand.tmp 164), type := 42, pos := "law.go:131", after := #[{ on := 7, ground := Ground.data }], guard := none }) (v := ?_) rfl (by kernel_rfl) (by kernel_rfl) (by kernel_rfl) (fun _ _ _ h => h) (Or.inl ⟨by rfl, ?_⟩) (by assumption) ?_
                      rotate_left
                      · (intro w hSw; (try dsimp only at hSw); go_simp); (try with_reducible rfl)
                      try simp only [Act.put, List.setIfInBounds_toArray, List.set_cons_zero, List.set_cons_succ]
                      refine wpAnyH_take (i := 9) (oi := { dst := some 165, op := Op.extract (Operand.tmp 156) 0, type := 31, pos := "law.go:131", after := #[{ on := 8, ground := Ground.data }], guard := none }) (v := ?_) rfl (by kernel_rfl) (by kernel_rfl) (by kernel_rfl) (fun _ _ _ h => h) (Or.inl ⟨by rfl, ?_⟩) (by assumption) ?_
                      rotate_left
                      · (intro w hSw; (try dsimp only at hSw); go_simp); (try with_reducible rfl)
                      try simp only [Act.put, List.setIfInBounds_toArray, List.set_cons_zero, List.set_cons_succ]
                      refine wpAnyH_take (i := 10) (oi := { dst := some 166, op := Op.extract (Operand.tmp 156) 1, type := 23, pos := "law.go:131", after := #[{ on := 8, ground := Ground.data }, { on := 13, ground := Ground.gcOnly Departure.lateStores }], guard := none }) (v := ?_) rfl (by kernel_rfl) (by kernel_rfl) (by kernel_rfl) (fun _ _ _ h => h) (Or.inl ⟨by rfl, ?_⟩) (by assumption) ?_
                      rotate_left
                      · (intro w hSw; (try dsimp only at hSw); go_simp); (try with_reducible rfl)
                      try simp only [Act.put, List.setIfInBounds_toArray, List.set_cons_zero, List.set_cons_succ]
                      refine wpAnyH_take (i := 11) (oi := { dst := some 167, op := Op.extract (Operand.tmp 156) 2, type := 4, pos := "law.go:131", after := #[{ on := 8, ground := Ground.data }, { on := 14, ground := Ground.gcOnly Departure.lateStores }], guard := none }) (v := ?_) rfl (by kernel_rfl) (by kernel_rfl) (by kernel_rfl) (fun _ _ _ h => h) (Or.inl ⟨by rfl, ?_⟩) (by assumption) ?_
                      rotate_left
                      · (intro w hSw; (try dsimp only at hSw); go_simp); (try with_reducible rfl)
                      try simp only [Act.put, List.setIfInBounds_toArray, List.set_cons_zero, List.set_cons_succ]
                      refine wpAnyH_ready (rs := [13]) (by kernel_rfl) (by simp) ?_
                      refine AllReadyH.cons (o := { dst := none, op := Op.store 31 (Operand.tmp 24) (Operand.tmp 165), type := 0, pos := "law.go:131", after := #[{ on := 12, ground := Ground.data }, { on := 9, ground := Ground.data }, { on := 7, ground := Ground.chain }, { on := 0, ground := Ground.phase }, { on := 1, ground := Ground.phase }, { on := 2, ground := Ground.phase }, { on := 3, ground := Ground.phase }, { on := 4, ground := Ground.phase }, { on := 5, ground := Ground.phase }, { on := 6, ground := Ground.phase }, { on := 7, ground := Ground.phase }, { on := 8, ground := Ground.phase }, { on := 9, ground := Ground.phase }, { on := 10, ground := Ground.textOnly Departure.lateStores }, { on := 11, ground := Ground.textOnly Departure.lateStores }, { on := 12, ground := Ground.phase }], guard := none }) rfl (fun K hK => ?_) AllReadyH.nil
                      skip
                      refine step_stp hst6 ⟨rfl, rfl⟩ ?_
                      refine hK.out _ _ (by (try dsimp only); exact HS.out _ b6) (fun hHeld => ?_)
                      clear hK K
                      try simp only [Act.put, List.setIfInBounds_toArray, List.set_cons_zero, List.set_cons_succ]
                      refine wpAnyH_take (i := 14) (oi := { dst := some 25, op := Op.assign (Operand.tmp 166), type := 23, pos := "law.go:131", after := #[{ on := 10, ground := Ground.data }, { on := 13, ground := Ground.chain }, { on := 0, ground := Ground.phase }, { on := 1, ground := Ground.phase }, { on := 2, ground := Ground.phase }, { on := 3, ground := Ground.phase }, { on := 4, ground := Ground.phase }, { on := 5, ground := Ground.phase }, { on := 6, ground := Ground.phase }, { on := 7, ground := Ground.phase }, { on := 8, ground := Ground.phase }, { on := 9, ground := Ground.phase }, { on := 10, ground := Ground.phase }, { on := 11, ground := Ground.textOnly Departure.lateStores }, { on := 12, ground := Ground.phase }, { on := 13, ground := Ground.phase }], guard := none }) (v := ?_) rfl (by kernel_rfl) (by kernel_rfl) (by kernel_rfl) (fun _ _ _ h => h) (Or.inl ⟨by rfl, ?_⟩) (by assumption) ?_
                      rotate_left
                      · (intro w hSw; (try dsimp only at hSw); go_simp); (try with_reducible rfl)
                      try simp only [Act.put, List.setIfInBounds_toArray, List.set_cons_zero, List.set_cons_succ]
                      refine wpAnyH_take (i := 15) (oi := { dst := some 26, op := Op.assign (Operand.tmp 167), type := 4, pos := "law.go:131", after := #[{ on := 11, ground := Ground.data }, { on := 14, ground := Ground.chain }, { on := 0, ground := Ground.phase }, { on := 1, ground := Ground.phase }, { on := 2, ground := Ground.phase }, { on := 3, ground := Ground.phase }, { on := 4, ground := Ground.phase }, { on := 5, ground := Ground.phase }, { on := 6, ground := Ground.phase }, { on := 7, ground := Ground.phase }, { on := 8, ground := Ground.phase }, { on := 9, ground := Ground.phase }, { on := 10, ground := Ground.phase }, { on := 11, ground := Ground.phase }, { on := 12, ground := Ground.phase }, { on := 13, ground := Ground.phase }, { on := 14, ground := Ground.phase }], guard := none }) (v := ?_) rfl (by kernel_rfl) (by kernel_rfl) (by kernel_rfl) (fun _ _ _ h => h) (Or.inl ⟨by rfl, ?_⟩) (by assumption) ?_
                      rotate_left
                      · (intro w hSw; (try dsimp only at hSw); go_simp); (try with_reducible rfl)
                      try simp only [Act.put, List.setIfInBounds_toArray, List.set_cons_zero, List.set_cons_succ]
                      refine wpAnyH_done (by kernel_rfl) ?_ _
                      refine NoPanic.normal ?_
                      have ⟨PB, OD⟩ := RetCo.box (q := (qB, qN, qG)) (d := d1) o5 bs5 od5 kz5 k6 g6
                      have F := Lib.hid (show PBox w6 wr.heap.size wr.heap.size (qB, qN, qG) ∧ w6.ownsRow wr.heap.size 5 1 (.slice D5 d1.length cd5) d1.length (byteCells d1) ∧ Below wr.heap.size wr w6 ∧ wr.heap.size ≤ wr.heap.size from ⟨PB.more (by omega), own_more OD (by omega), b6, Nat.le_refl _⟩)
                      clear PB OD g6 b6 k6 kz5 kz hb5 o5 bs5 od5 HC hst6
                      go_wp2_with fail
                      go_meet
                      exact ⟨_, D5, cd5, rfl, rfl, rfl, F.out⟩
                  case rest => as_aux_lemma =>
                    obtain ⟨g1, D1, cd1, rfl, rfl, rfl, PB1, OD1, b1, hg1⟩ := hcut
                    rename World => wc
                    have z1 := b1.size
                    have hI := Lib.hid (hI.out.below b1)
                    have hPs := Lib.hid (And.intro (own_below hPs.out.1 b1 (Nat.le_refl _)) (hPs.out.2.below b1 (Nat.le_refl _)))
                    obtain ⟨A1, c1, v1, k1, o1, bb1⟩ := PB1
                    obtain ⟨A2, c2, v2, kP, -, -⟩ := hI.out.p
                    have hzw := hI.out.b.size
                    obtain ⟨wd, hst, kW, g7, zd⟩ := prt_st kP rfl #[.int .i64 qB, .int .i64 qN, .slice A1 qG.length c1] rfl rfl
                    have zz7 : w.heap.size ≤ wr.heap.size := by omega
                    have hI := Lib.hid (SyI.box (q := (qB, qN, qG)) hI.out kP g7 kW o1 bb1 zz7)
                    have hPs := Lib.hid (And.intro (own_grBlk hPs.out.1 kP (by decide) g7) (hPs.out.2.grBlk kP (by decide) g7))
                    have OD2 := own_grBlk OD1 kP (by decide) g7
                    have q1 := bs3 k1 rfl
                    have zwd := g7.size
                    clear HC HS b00 ad8 o1 bb1 kP kW g7 OD1 b1
                    cases oo
                    · go_wp2_with (first | ((with_reducible refine wpList_ldp q1 ?_ ?_); rfl) | ((with_reducible refine wpList_stp hst ?_ ?_); exact ⟨rfl, rfl⟩))
                      go_roundg (M - (k + 1))
                      case measure => have := HG2.out; omega
                      case rel =>
                        refine ⟨k + 1, Ac, cc, Kc, (qB, qN, qG), rfl, by omega, by go_num, rfl, hI, Lib.hid ?_, hPs, by omega⟩
                        rcases Hcase.out with ⟨-, h⟩ | ⟨h, -⟩
                        · exact h
                        · cases h
                    · obtain ⟨hd, hSJ2, u, vv, hu, hvv, huv, hvin⟩ : d1 = dD x y ∧ SJ (Ka.map Shn.p ++ [y]) (20 + q) x y ll false (k + 1) (dTake (Kc.map Shn.p) x.1 y.1 (dD x y)).1 (qB, qN, qG) ∧ ∃ u v, (Kc.map Shn.p).getLast? = some u ∧ (dTake (Kc.map Shn.p) x.1 y.1 (dD x y)).1.getLast? = some v ∧ u.1 ≤ v.1 ∧ ((dTake (Kc.map Shn.p) x.1 y.1 (dD x y)).2 = true → v ∈ Ka.map Shn.p ++ [y]) := by
                        rcases Hcase.out with ⟨h, -⟩ | ⟨-, h⟩
                        · cases h
                        · exact h
                      have hkc := (sCheck_parts HJc.out).1
                      have hkc8 := (sCheck_parts HJc.out).2.1
                      rw [List.length_map] at hkc hkc8
                      subst hd
                      have hIc := hI.out.c.now
                      obtain ⟨bk, ok, kk, xk, xkf, rfl, hbk, hkk, hxk, -, hclk, -, -, -, -⟩ := shs_ends hIc hkc
                      have ek := map_last rfl hxk hu
                      have clk := range_num hclk
                      rw [ek.1] at clk
                      have hTk := take_lo (z := x.1) (k := y.1) hIc (Nat.le_refl _) (by omega) (Sl.of_own OD2) (Nat.le_refl _) Hgy.out
                      obtain ⟨⟨P11, t2⟩, hT⟩ : ∃ t, t = dTake (Kc.map Shn.p) x.1 y.1 (dD x y) := ⟨_, rfl⟩
                      rw [← hT] at hTk hSJ2 hvv hvin
                      simp only at hTk hSJ2 hvv hvin
                      rw [hkk] at hTk ⊢
                      have HTk := Lib.hid hTk
                      have HS2 := Lib.hid hSJ2
                      have Hvv := Lib.hid (And.intro hvv hvin)
                      obtain ⟨un, hun⟩ : ∃ un, un = u.1 := ⟨_, rfl⟩
                      rw [← hun] at clk huv
                      have am9 := addr_add bk ok (kk * 17)
                      have am9a := addr_add bk (ok + kk * 17) 0
                      have hkk8 : kk + 1 ≤ 8 := by omega
                      have Hk0 := Lib.hid (And.intro hkM hk)
                      clear hT hTk hSJ2 hvv hvin hun ek hclk hxk hu hkk hkc hkc8 hIc OD2 Hcase HJc hbk Hgy
                      go_wp2_with (first | ((with_reducible refine wpList_ldp q1 ?_ ?_); rfl) | ((with_reducible refine wpList_stp hst ?_ ?_); exact ⟨rfl, rfl⟩))
                      refine HTk.out.mono ?_
                      rintro e w11 ⟨A11, c11, K11, rfl, hK11, o11, ok11, b11, lo11⟩
                      subst hK11
                      have hI := Lib.hid (hI.out.setc b11 o11 ok11 lo11)
                      have hPs := Lib.hid (And.intro (own_below hPs.out.1 b11 (Nat.le_refl _)) (hPs.out.2.below b11 (Nat.le_refl _)))
                      have z11 := b11.size
                      clear HTk o11 ok11 b11 lo11 clk q1 hst am9 am9a
                      have hkc := (sCheck_parts HS2.out.ck).1
                      have hkc8 := (sCheck_parts HS2.out.ck).2.1
                      rw [List.length_map] at hkc hkc8
                      obtain ⟨b12, o12, k12, x12, xf12, rfl, hb12, hk12, hx12, -, hcl12, -, -, hxm12, -⟩ := shs_ends hI.out.c.now hkc
                      have e12 := map_last rfl hx12 Hvv.out.1
                      have am12 := addr_add b12 o12 (k12 * 17)
                      have hn0 : (((k12 : Int) + 1) == 0) = false := beq_eq_false_iff_ne.2 (by omega)
                      have hn1 : ¬ ((k12 : Int) + 1 = 0) := by omega
                      have hn2 : ¬ (vv.1 < un) := by omega
                      have hk128 : k12 + 1 ≤ 8 := by omega
                      have Hk12 := Lib.hid hk12
                      have Hok12 := Lib.hid (hI.out.c.now.ok x12 hxm12)
                      have He12 := Lib.hid e12
                      obtain ⟨vn, hvn⟩ : ∃ vn, vn = vv.1 := ⟨_, rfl⟩
                      have Hvn := Lib.hid hvn
                      rw [← hvn] at hn2
                      rw [hk12]
                      cases t2
                      · have cl12 := range_num hcl12
                        rw [e12.1, ← hvn] at cl12
                        have am12a := addr_add b12 (o12 + k12 * 17) 0
                        clear hcl12 hx12 hxm12 e12 hkc hkc8 hvn hk12
                        go_wp2_with fail
                        go_roundg (M - (k + 1))
                        case measure => have := HG2.out; omega
                        case rel => exact ⟨k + 1, _, c11, K11, (qB, qN, qG), rfl, by have := Hk0.out; omega, by go_num, by rw [Hk12.out], hI, HS2, hPs, by omega⟩
                      · have hmem := Hvv.out.2 rfl
                        have hKn := known_yes (x := x12) (show Shs w11 w11.heap.size A7 (Ka ++ [xl]).length c7 (Ka ++ [xl]) from ⟨(Sl.of_own hI.out.a).more (Nat.zero_le _) (Nat.le_refl _), hI.out.e.now⟩) (Nat.le_refl _) (by rw [List.length_append]; simp only [List.length_cons, List.length_nil]; omega) Hok12.out (by
                          have e3 : Ka.map Shn.p ++ [y] = (Ka ++ [xl]).map Shn.p := by rw [List.map_append]; simp only [List.map_cons, List.map_nil, Hxp.out]
                          rw [e3, List.mem_map] at hmem
                          obtain ⟨y', hy', e4⟩ := hmem
                          refine ⟨y', hy', e4.trans ?_⟩
                          show vv = (x12.num, x12.s)
                          rw [e12.1, e12.2])
                        rw [show (Ka ++ [xl]).length = Ka.length + 1 by rw [List.length_append]; rfl] at hKn
                        unfold Shn.v at hKn
                        have HKn := Lib.hid hKn
                        obtain ⟨k0, k1, k2, k3, k4, k5, k6', k7, k8, k9, k10, k11, k12', k13, k14, k15, k16⟩ := range_cells hcl12
                        have He := Lib.hid (show x12.num = vn by rw [e12.1, hvn])
                        have hn2' : ¬ (x12.num < un) := by rw [He.out]; exact hn2
                        have am12_0 := addr_add b12 (o12 + k12 * 17) 0
                        have am12_1 := addr_add b12 (o12 + k12 * 17) 1
                        have am12_2 := addr_add b12 (o12 + k12 * 17) 2
                        have am12_3 := addr_add b12 (o12 + k12 * 17) 3
                        have am12_4 := addr_add b12 (o12 + k12 * 17) 4
                        have am12_5 := addr_add b12 (o12 + k12 * 17) 5
                        have am12_6 := addr_add b12 (o12 + k12 * 17) 6
                        have am12_7 := addr_add b12 (o12 + k12 * 17) 7
                        have am12_8 := addr_add b12 (o12 + k12 * 17) 8
                        have am12_9 := addr_add b12 (o12 + k12 * 17) 9
                        have am12_10 := addr_add b12 (o12 + k12 * 17) 10
                        have am12_11 := addr_add b12 (o12 + k12 * 17) 11
                        have am12_12 := addr_add b12 (o12 + k12 * 17) 12
                        have am12_13 := addr_add b12 (o12 + k12 * 17) 13
                        have am12_14 := addr_add b12 (o12 + k12 * 17) 14
                        have am12_15 := addr_add b12 (o12 + k12 * 17) 15
                        have am12_16 := addr_add b12 (o12 + k12 * 17) 16
                        clear hcl12 hx12 hxm12 e12 hkc hkc8 hvn hk12 hKn hmem hn2
                        go_wp2_with fail
                        refine HKn.out.mono ?_
                        rintro e w13 ⟨rfl, b13⟩
                        have hI := Lib.hid (hI.out.below b13)
                        have hPs := Lib.hid (And.intro (own_below hPs.out.1 b13 (Nat.le_refl _)) (hPs.out.2.below b13 (Nat.le_refl _)))
                        have z13 := b13.size
                        clear HKn b13 k0 k1 k2 k3 k4 k5 k6' k7 k8 k9 k10 k11 k12' k13 k14 k15 k16
                        go_wp2_with fail
                        go_roundg (M - (k + 1))
                        case measure => have := HG2.out; omega
                        case rel => exact ⟨k + 1, _, c11, K11, (qB, qN, qG), rfl, by have := Hk0.out; omega, by go_num, by rw [Hk12.out], hI, HS2, hPs, by omega⟩
            · have HkM2 : Hid (k = M) := Lib.hid (by omega)
              go_upto_region 29 with fail
              go_cut [226] (fun s226 wx => s226 = .bool ll ∧ wr = wx)
              case first => as_aux_lemma =>
                by_cases hi3 : i < n3
                · obtain ⟨ba, oa, rfl, hcv⟩ := byte_at2 (HBy.out _ hI.out.b) hi3
                  rw [← Hv.out] at hcv
                  have hi3I : (i : Int) < n3 := by omega
                  obtain ⟨v4, hv4⟩ : ∃ v4, v4 = v % 4 := ⟨_, rfl⟩
                  have hr2 : Int.tmod (v : Int) 4 = v4 := by rw [Int.tmod_eq_emod_of_nonneg (by omega), hv4]; omega
                  have hvI : (v : Int) ≤ 255 := by omega
                  have ac1 := addr_add ba oa i
                  by_cases he : v4 = 3
                  · obtain rfl : ll = true := by rw [Hll.out]; exact decide_eq_true (.inr (by omega))
                    have heI : ((v4 : Int) == 3) = true := by rw [he]; rfl
                    clear hv4
                    go_wp2_with fail
                    go_meet
                    exact ⟨by first | rfl | (rw [decide_eq_false (by omega)]) | (rw [decide_eq_true (by omega)]), rfl⟩
                  · obtain rfl : ll = false := by rw [Hll.out]; exact decide_eq_false (by omega)
                    have heI : ((v4 : Int) == 3) = false := beq_eq_false_iff_ne.2 (by omega)
                    clear hv4
                    go_wp2_with fail
                    go_meet
                    exact ⟨by first | rfl | (rw [decide_eq_false (by omega)]) | (rw [decide_eq_true (by omega)]), rfl⟩
                · have hi3I : ¬ ((i : Int) < n3) := by omega
                  obtain rfl : ll = true := by rw [Hll.out]; exact decide_eq_true (.inl (by omega))
                  go_wp2_with fail
                  go_meet
                  exact ⟨by first | rfl | (rw [decide_eq_false (by omega)]) | (rw [decide_eq_true (by omega)]), rfl⟩
              case rest => as_aux_lemma =>
                obtain ⟨rfl, rfl⟩ := hcut
                have e3 : (Ka ++ [xl]).map Shn.p = Ka.map Shn.p ++ [y] := by rw [List.map_append]; simp only [List.map_cons, List.map_nil, Hxp.out]
                have hJ2 := hJ.out
                have hL : (Ka.map Shn.p).length ≤ i + 1 := Hkal.out
                obtain ⟨hX1, hX2, hX3, hX4, hX5, hX6, hX7, hX8⟩ := HX.out
                have hdM : (K6.map Shn.p).length ≠ 1 → k = dM x y (20 + q) := fun hne => by
                  have ho1 : o1 = false := by rw [Ho1.out]; exact decide_eq_false hne
                  rw [HkM2.out, HM.out, (Hps.out.1 ho1).2.2]
                  simp
                have hlen7 : (Ka ++ [xl]).length = Ka.length + 1 := by rw [List.length_append]; rfl
                have Hlen7 := Lib.hid hlen7
                rw [Ho1.out] at hJ2
                cases ll
                · have hO2 := Lib.hid (so_lost hL hX1 hX2 hX4 hX5 hX6 hX7 hX8 hJ2)
                  rw [← e3] at hO2
                  clear hJ2 hL hX1 hX2 hX3 hX4 hX5 hX6 hX7 hX8 hdM e3 hlen7
                  go_wp2_with fail
                  go_roundg (N - (i + 1))
                  case measure => have := HG.out; omega
                  case rel => exact ⟨i + 1, _, c6, K6, Ac, cc, Kc, A7, c7, Ka ++ [xl], p, rfl, by omega, by rw [Hkl6.out], rfl, by rw [Hlen7.out], by go_num, hI, hO2, by omega⟩
                · obtain ⟨hcl, hO2⟩ := so_full hL hX1 hX2 hX4 hX5 hX6 hX7 hX8 hJ2 hdM
                  rw [← e3] at hO2
                  have hO2 := Lib.hid hO2
                  have hkc := (sCheck_parts hJ2.ck).1
                  have hkc8 := (sCheck_parts hJ2.ck).2.1
                  rw [List.length_map] at hkc hkc8
                  obtain ⟨bk, ok, kk, xk, xkf, rfl, hbk, hkk, hxk, -, hclk, -, -, hxkm, -⟩ := shs_ends hI.out.c.now hkc
                  obtain ⟨bm, om, km, xm, xmf, hAm, hbm, hkm, hxm, -, hclm, -, -, -, -⟩ := shs_ends hI.out.m.now (by have := Hkl6.out; omega)
                  injection hAm with hAm
                  injection hAm with ea eb
                  subst ea eb
                  obtain rfl : km = k6 := by have := Hkl6.out; omega
                  have ek := map_last rfl hxk hcl
                  have em := map_last rfl hxm hX2
                  have clk := range_num hclk
                  have clm := range_num hclm
                  rw [ek.1] at clk
                  rw [em.1] at clm
                  have Hxo := Lib.hid (hI.out.c.now.ok xk hxkm)
                  have Hxs := Lib.hid (show xk.s = ys.s from ek.2.trans hX3)
                  have HSl := Lib.hid (range_tail hclk)
                  obtain ⟨yn, hyn⟩ : ∃ yn, yn = y.1 := ⟨_, rfl⟩
                  rw [← hyn] at clk clm hX6 hO2
                  have hAck := acked_lo (z := yn) hI.out.m.now (Nat.le_refl _) (by have := Hkl6.out; omega)
                  have hyn1 := (last_top hX4 hX2).1
                  rw [← hyn] at hyn1
                  have Hkk := Lib.hid hkk
                  have hkk8 : kk + 1 ≤ 8 := by omega
                  have hkk9 : (kk : Int) < (kk : Int) + 1 := by omega
                  have hkm9 : (km : Int) < (km : Int) + 1 := by omega
                  have hwkk : IntKind.i64.wrap (kk : Int) = kk := IntWalk.i64_in _ (by omega)
                  have hwkm : IntKind.i64.wrap (km : Int) = km := IntWalk.i64_in _ (by omega)
                  have hwi : IntKind.i64.wrap (i : Int) = i := IntWalk.i64_in _ (by omega)
                  have am9 := addr_add bk ok (kk * 17)
                  have am9a := addr_add bk (ok + kk * 17) 0
                  have am9b := addr_add bk (ok + kk * 17) 1
                  have am6 := addr_add b6 o6 (km * 17)
                  have am6a := addr_add b6 (o6 + km * 17) 0
                  have hzI := hI.out.b.size
                  have hcw := HciW.out _ hI.out.b
                  have b00 : Below wr.heap.size wr wr.drew := (Below.refl _ _).drew
                  have hupr : up ≤ wr.heap.size := by omega
                  have hblr : bl < wr.heap.size := by omega
                  have hbkr : bk < wr.heap.size := hbk
                  have hbmr : b6 < wr.heap.size := hbm
                  have HSm := Lib.hid (fun W (b : Below wr.heap.size wr W) => (show Calls Try.prog 20 #[.agg (xk.s.v xk.C xk.cc xk.M xk.cm), .agg (ys.s.v ys.C ys.cc ys.M ys.cm)] W (fun e w' => e = .returned (.bool true) ∧ Below W.heap.size W w') by
                    have := same_any (Hxo.out.below b (Nat.le_refl _)).1 b.size (hcw.2.below b hupr).1 (Nat.le_trans hupr b.size) Hxo.out.2 hcw.2.2
                    rw [gSame_iff.2 Hxs.out] at this
                    exact this))
                  have HH := Lib.hid (fun W (b : Below wr.heap.size wr W) => (show Hid (W.rangeAt bk (ok + kk * 17 + 1) (xk.s.v xk.C xk.cc xk.M xk.cm).toList) ∧ Hid (W.rangeAt bl (ol + i * 16) (ys.s.v ys.C ys.cc ys.M ys.cm).toList) from ⟨Lib.hid (range_below HSl.out b hbkr), Lib.hid (range_below hcw.1 b hblr)⟩))
                  have HCL := Lib.hid (fun W (b : Below wr.heap.size wr W) => (show W.cell? ⟨bk, ok + kk * 17, none⟩ = some (.int .i64 yn) ∧ W.cell? ⟨b6, o6 + km * 17, none⟩ = some (.int .i64 yn) from ⟨(b.cell (p := ⟨bk, ok + kk * 17, none⟩) hbkr).trans clk, (b.cell (p := ⟨b6, o6 + km * 17, none⟩) hbmr).trans clm⟩))
                  clear hJ2 hL hX1 hX2 hX3 hX4 hX5 hX7 hX8 hdM e3 hlen7 hcl hxk hclk hxkm hxm hclm ek em hcw hkc hkc8 clk clm hkm hAck hyn
                  rw [hkk]
                  clear hkk
                  go_upto_region 30 with fail
                  go_cut [30] (fun s30 wx => s30 = .bool true ∧ Below wr.heap.size wr wx)
                  case first => as_aux_lemma =>
                    generalize hc1 : xk.s.v xk.C xk.cc xk.M xk.cm = ca1 at *
                    generalize hc2 : ys.s.v ys.C ys.cc ys.M ys.cm = cb at *
                    have hs1 : ca1.size = 16 := by rw [← hc1]; rfl
                    have hs2 : cb.size = 16 := by rw [← hc2]; rfl
                    clear hc1 hc2 HR HBy HG hI hO2 HciW HX HCt Hps HM hPs HCL
                    refine wp_region_noPanic ?_
                    refine wp_region_held_drew (S := (fun w' : World => Hid (w'.rangeAt bk (ok + kk * 17 + 1) ca1.toList) ∧ Hid (w'.rangeAt bl (ol + i * 16) cb.toList))) (by kernel_rfl) (by (try dsimp only); exact HH.out _ b00) (fun hHeld => ?_)
                    refine wpAnyH_take (i := 0) (oi := { dst := some 227, op := Op.move (Operand.tmp 14), type := 25, pos := "law.go:143", after := #[], guard := none }) (v := ?_) rfl (by kernel_rfl) (by kernel_rfl) (by kernel_rfl) (fun _ _ _ h => h) (Or.inl ⟨by rfl, ?_⟩) (by assumption) ?_
                    rotate_left
                    · (intro w hSw; (try dsimp only at hSw); go_simp); (try with_reducible rfl)
                    try simp only [Act.put, List.setIfInBounds_toArray, List.set_cons_zero, List.set_cons_succ]
                    refine wpAnyH_take (i := 1) (oi := { dst := some 228, op := Op.move (Operand.tmp 14), type := 25, pos := "law.go:143", after := #[], guard := none }) (v := ?_) rfl (by kernel_rfl) (by kernel_rfl) (by kernel_rfl) (fun _ _ _ h => h) (Or.inl ⟨by rfl, ?_⟩) (by assumption) ?_
                    rotate_left
                    · (intro w hSw; (try dsimp only at hSw); go_simp); (try with_reducible rfl)
                    try simp only [Act.put, List.setIfInBounds_toArray, List.set_cons_zero, List.set_cons_succ]
                    refine wpAnyH_take (i := 2) (oi := { dst := some 229, op := Op.call { callee := Callee.builtin Builtin.len, args := #[Operand.tmp 228], argTypes := #[25] }, type := 3, pos := "law.go:143", after := #[{ on := 1, ground := Ground.data }], guard := none }) (v := ?_) rfl (by kernel_rfl) (by kernel_rfl) (by kernel_rfl) (fun _ _ _ h => h) (Or.inl ⟨by rfl, ?_⟩) (by assumption) ?_
                    rotate_left
                    · (intro w hSw; (try dsimp only at hSw); go_simp); (try with_reducible rfl)
                    try simp only [Act.put, List.setIfInBounds_toArray, List.set_cons_zero, List.set_cons_succ]
                    refine wpAnyH_take (i := 3) (oi := { dst := some 230, op := Op.binOp BinOp.sub 3 (Operand.tmp 229) (Operand.const (Value.int IntKind.i64 1)) 3, type := 3, pos := "law.go:143", after := #[{ on := 2, ground := Ground.data }], guard := none }) (v := ?_) rfl (by kernel_rfl) (by kernel_rfl) (by kernel_rfl) (fun _ _ _ h => h) (Or.inl ⟨by rfl, ?_⟩) (by assumption) ?_
                    rotate_left
                    · (intro w hSw; (try dsimp only at hSw); go_simp); (try with_reducible rfl)
                    try simp only [Act.put, List.setIfInBounds_toArray, List.set_cons_zero, List.set_cons_succ]
                    refine wpAnyH_take (i := 4) (oi := { dst := some 231, op := Op.indexAddr 25 (Operand.tmp 227) (Operand.tmp 230), type := 0, pos := "law.go:143", after := #[{ on := 0, ground := Ground.data }, { on := 3, ground := Ground.data }], guard := none }) (v := ?_) rfl (by kernel_rfl) (by kernel_rfl) (by kernel_rfl) (fun _ _ _ h => h) (Or.inl ⟨by rfl, ?_⟩) (by assumption) ?_
                    rotate_left
                    · (intro w hSw; (try dsimp only at hSw); go_simp); (try with_reducible rfl)
                    try simp only [Act.put, List.setIfInBounds_toArray, List.set_cons_zero, List.set_cons_succ]
                    refine wpAnyH_take (i := 5) (oi := { dst := some 232, op := Op.fieldAddr 39 (Operand.tmp 231) 1, type := 0, pos := "law.go:143", after := #[{ on := 4, ground := Ground.data }], guard := none }) (v := ?_) rfl (by kernel_rfl) (by kernel_rfl) (by kernel_rfl) (fun _ _ _ h => h) (Or.inl ⟨by rfl, ?_⟩) (by assumption) ?_
                    rotate_left
                    · (intro w hSw; (try dsimp only at hSw); go_simp); (try with_reducible rfl)
                    try simp only [Act.put, List.setIfInBounds_toArray, List.set_cons_zero, List.set_cons_succ]
                    refine wpAnyH_take (i := 6) (oi := { dst := some 233, op := Op.load 35 (Operand.tmp 232), type := 35, pos := "law.go:143", after := #[{ on := 5, ground := Ground.data }], guard := none }) (v := .agg ca1) rfl (by kernel_rfl) (by kernel_rfl) (by kernel_rfl) (fun _ _ _ h => h) (Or.inl ⟨by rfl, fun w hSw => exec_lds hSw.1 hs1 rfl⟩) (by assumption) ?_
                    try simp only [Act.put, List.setIfInBounds_toArray, List.set_cons_zero, List.set_cons_succ]
                    refine wpAnyH_take (i := 7) (oi := { dst := some 234, op := Op.move (Operand.tmp 2), type := 22, pos := "law.go:143", after := #[], guard := none }) (v := ?_) rfl (by kernel_rfl) (by kernel_rfl) (by kernel_rfl) (fun _ _ _ h => h) (Or.inl ⟨by rfl, ?_⟩) (by assumption) ?_
                    rotate_left
                    · (intro w hSw; (try dsimp only at hSw); go_simp); (try with_reducible rfl)
                    try simp only [Act.put, List.setIfInBounds_toArray, List.set_cons_zero, List.set_cons_succ]
                    refine wpAnyH_take (i := 8) (oi := { dst := some 235, op := Op.move (Operand.tmp 18), type := 3, pos := "law.go:143", after := #[], guard := none }) (v := ?_) rfl (by kernel_rfl) (by kernel_rfl) (by kernel_rfl) (fun _ _ _ h => h) (Or.inl ⟨by rfl, ?_⟩) (by assumption) ?_
                    rotate_left
                    · (intro w hSw; (try dsimp only at hSw); go_simp); (try with_reducible rfl)
                    try simp only [Act.put, List.setIfInBounds_toArray, List.set_cons_zero, List.set_cons_succ]
                    refine wpAnyH_take (i := 9) (oi := { dst := some 236, op := Op.indexAddr 22 (Operand.tmp 234) (Operand.tmp 235), type := 0, pos := "law.go:143", after := #[{ on := 7, ground := Ground.data }, { on := 8, ground := Ground.data }], guard := none }) (v := ?_) rfl (by kernel_rfl) (by kernel_rfl) (by kernel_rfl) (fun _ _ _ h => h) (Or.inl ⟨by rfl, ?_⟩) (by assumption) ?_
                    rotate_left
                    · (intro w hSw; (try dsimp only at hSw); go_simp); (try with_reducible rfl)
                    try simp only [Act.put, List.setIfInBounds_toArray, List.set_cons_zero, List.set_cons_succ]
                    refine wpAnyH_take (i := 10) (oi := { dst := some 237, op := Op.load 35 (Operand.tmp 236), type := 35, pos := "law.go:143", after := #[{ on := 9, ground := Ground.data }], guard := none }) (v := .agg cb) rfl (by kernel_rfl) (by kernel_rfl) (by kernel_rfl) (fun _ _ _ h => h) (Or.inl ⟨by rfl, fun w hSw => exec_lds hSw.2 hs2 rfl⟩) (by assumption) ?_
                    try simp only [Act.put, List.setIfInBounds_toArray, List.set_cons_zero, List.set_cons_succ]
                    refine wpAnyH_ready (rs := [11]) (by kernel_rfl) (by simp) ?_
                    refine AllReadyH.cons (o := { dst := some 238, op := Op.call { callee := Callee.value (Operand.func 20), args := #[Operand.tmp 233, Operand.tmp 237], argTypes := #[35, 35] }, type := 4, pos := "law.go:143", after := #[{ on := 6, ground := Ground.data }, { on := 10, ground := Ground.data }], guard := none }) rfl (fun K hK => ?_) AllReadyH.nil
                    go_simp
                    refine (HSm.out _ b00).mono ?_; rintro e w6 ⟨rfl, hb6⟩; have b06 : Below wr.heap.size wr w6 := b00.trans (hb6.mono (Nat.le_refl _))
                    refine hK.out _ _ (by (try dsimp only); exact HH.out _ b06) (fun hHeld => ?_)
                    clear hK K
                    try simp only [Act.put, List.setIfInBounds_toArray, List.set_cons_zero, List.set_cons_succ]
                    refine wpAnyH_take (i := 12) (oi := { dst := some 30, op := Op.assign (Operand.tmp 238), type := 4, pos := "law.go:143", after := #[{ on := 11, ground := Ground.data }, { on := 11, ground := Ground.chain }, { on := 0, ground := Ground.phase }, { on := 1, ground := Ground.phase }, { on := 2, ground := Ground.phase }, { on := 3, ground := Ground.phase }, { on := 4, ground := Ground.phase }, { on := 5, ground := Ground.phase }, { on := 6, ground := Ground.phase }, { on := 7, ground := Ground.phase }, { on := 8, ground := Ground.phase }, { on := 9, ground := Ground.phase }, { on := 10, ground := Ground.phase }, { on := 11, ground := Ground.phase }], guard := none }) (v := ?_) rfl (by kernel_rfl) (by kernel_rfl) (by kernel_rfl) (fun _ _ _ h => h) (Or.inl ⟨by rfl, ?_⟩) (by assumption) ?_
                    rotate_left
                    · (intro w hSw; (try dsimp only at hSw); go_simp); (try with_reducible rfl)
                    try simp only [Act.put, List.setIfInBounds_toArray, List.set_cons_zero, List.set_cons_succ]
                    refine wpAnyH_done (by kernel_rfl) ?_ _
                    refine NoPanic.normal ?_
                    go_wp2_with fail
                    go_meet
                    exact ⟨rfl, b06⟩
                  case rest => as_aux_lemma =>
                    obtain ⟨rfl, bS⟩ := hcut
                    rename World => ws
                    have HCL := Lib.hid (fun W (b : Below ws.heap.size ws W) => HCL.out W (bS.trans (b.mono bS.size)))
                    have hI := Lib.hid (hI.out.below bS)
                    have zS := bS.size
                    have b0s : Below ws.heap.size ws ws.drew := (Below.refl _ _).drew
                    clear HSm HH b00 bS HSl
                    go_upto_region 31 with fail
                    refine wp_region_noPanic ?_
                    refine wp_region_held_drew (S := (fun w' : World => w'.cell? ⟨bk, ok + kk * 17, none⟩ = some (.int .i64 yn) ∧ w'.cell? ⟨b6, o6 + km * 17, none⟩ = some (.int .i64 yn))) (by kernel_rfl) (by (try dsimp only); exact HCL.out _ b0s) (fun hHeld => ?_)
                    refine wpAnyH_take (i := 0) (oi := { dst := some 239, op := Op.move (Operand.tmp 30), type := 4, pos := "law.go:144", after := #[], guard := none }) (v := ?_) rfl (by kernel_rfl) (by kernel_rfl) (by kernel_rfl) (fun _ _ _ h => h) (Or.inl ⟨by rfl, ?_⟩) (by assumption) ?_
                    rotate_left
                    · (intro w hSw; (try dsimp only at hSw); go_simp); (try with_reducible rfl)
                    try simp only [Act.put, List.setIfInBounds_toArray, List.set_cons_zero, List.set_cons_succ]
                    refine wpAnyH_take (i := 1) (oi := { dst := some 240, op := Op.unOp UnOp.not 4 (Operand.tmp 239), type := 4, pos := "law.go:144", after := #[{ on := 0, ground := Ground.data }], guard := none }) (v := ?_) rfl (by kernel_rfl) (by kernel_rfl) (by kernel_rfl) (fun _ _ _ h => h) (Or.inl ⟨by rfl, ?_⟩) (by assumption) ?_
                    rotate_left
                    · (intro w hSw; (try dsimp only at hSw); go_simp); (try with_reducible rfl)
                    try simp only [Act.put, List.setIfInBounds_toArray, List.set_cons_zero, List.set_cons_succ]
                    refine wpAnyH_take (i := 2) (oi := { dst := some 241, op := Op.move (Operand.tmp 240), type := 4, pos := "law.go:144", after := #[{ on := 1, ground := Ground.data }], guard := none }) (v := ?_) rfl (by kernel_rfl) (by kernel_rfl) (by kernel_rfl) (fun _ _ _ h => h) (Or.inl ⟨by rfl, ?_⟩) (by assumption) ?_
                    rotate_left
                    · (intro w hSw; (try dsimp only at hSw); go_simp); (try with_reducible rfl)
                    try simp only [Act.put, List.setIfInBounds_toArray, List.set_cons_zero, List.set_cons_succ]
                    refine wpAnyH_take (i := 3) (oi := { dst := some 242, op := Op.move (Operand.tmp 14), type := 25, pos := "law.go:144", after := #[{ on := 2, ground := Ground.guard }], guard := some (2, false) }) (v := ?_) rfl (by kernel_rfl) (by kernel_rfl) (by kernel_rfl) (fun _ _ _ h => h) (Or.inl ⟨by rfl, ?_⟩) (by assumption) ?_
                    rotate_left
                    · (intro w hSw; (try dsimp only at hSw); go_simp); (try with_reducible rfl)
                    try simp only [Act.put, List.setIfInBounds_toArray, List.set_cons_zero, List.set_cons_succ]
                    refine wpAnyH_take (i := 4) (oi := { dst := some 243, op := Op.move (Operand.tmp 14), type := 25, pos := "law.go:144", after := #[{ on := 2, ground := Ground.guard }], guard := some (2, false) }) (v := ?_) rfl (by kernel_rfl) (by kernel_rfl) (by kernel_rfl) (fun _ _ _ h => h) (Or.inl ⟨by rfl, ?_⟩) (by assumption) ?_
                    rotate_left
                    · (intro w hSw; (try dsimp only at hSw); go_simp); (try with_reducible rfl)
                    try simp only [Act.put, List.setIfInBounds_toArray, List.set_cons_zero, List.set_cons_succ]
                    refine wpAnyH_take (i := 5) (oi := { dst := some 244, op := Op.call { callee := Callee.builtin Builtin.len, args := #[Operand.tmp 243], argTypes := #[25] }, type := 3, pos := "law.go:144", after := #[{ on := 4, ground := Ground.data }, { on := 2, ground := Ground.guard }], guard := some (2, false) }) (v := ?_) rfl (by kernel_rfl) (by kernel_rfl) (by kernel_rfl) (fun _ _ _ h => h) (Or.inl ⟨by rfl, ?_⟩) (by assumption) ?_
                    rotate_left
                    · (intro w hSw; (try dsimp only at hSw); go_simp); (try with_reducible rfl)
                    try simp only [Act.put, List.setIfInBounds_toArray, List.set_cons_zero, List.set_cons_succ]
                    refine wpAnyH_take (i := 6) (oi := { dst := some 245, op := Op.binOp BinOp.sub 3 (Operand.tmp 244) (Operand.const (Value.int IntKind.i64 1)) 3, type := 3, pos := "law.go:144", after := #[{ on := 5, ground := Ground.data }, { on := 2, ground := Ground.guard }], guard := some (2, false) }) (v := ?_) rfl (by kernel_rfl) (by kernel_rfl) (by kernel_rfl) (fun _ _ _ h => h) (Or.inl ⟨by rfl, ?_⟩) (by assumption) ?_
                    rotate_left
                    · (intro w hSw; (try dsimp only at hSw); go_simp); (try with_reducible rfl)
                    try simp only [Act.put, List.setIfInBounds_toArray, List.set_cons_zero, List.set_cons_succ]
                    refine wpAnyH_take (i := 7) (oi := { dst := some 246, op := Op.indexAddr 25 (Operand.tmp 242) (Operand.tmp 245), type := 0, pos := "law.go:144", after := #[{ on := 3, ground := Ground.data }, { on := 6, ground := Ground.data }, { on := 2, ground := Ground.guard }], guard := some (2, false) }) (v := ?_) rfl (by kernel_rfl) (by kernel_rfl) (by kernel_rfl) (fun _ _ _ h => h) (Or.inl ⟨by rfl, ?_⟩) (by assumption) ?_
                    rotate_left
                    · (intro w hSw; (try dsimp only at hSw); go_simp); (try with_reducible rfl)
                    try simp only [Act.put, List.setIfInBounds_toArray, List.set_cons_zero, List.set_cons_succ]
                    refine wpAnyH_take (i := 8) (oi := { dst := some 247, op := Op.fieldAddr 39 (Operand.tmp 246) 0, type := 0, pos := "law.go:144", after := #[{ on := 7, ground := Ground.data }, { on := 2, ground := Ground.guard }], guard := some (2, false) }) (v := ?_) rfl (by kernel_rfl) (by kernel_rfl) (by kernel_rfl) (fun _ _ _ h => h) (Or.inl ⟨by rfl, ?_⟩) (by assumption) ?_
                    rotate_left
                    · (intro w hSw; (try dsimp only at hSw); go_simp); (try with_reducible rfl)
                    try simp only [Act.put, List.setIfInBounds_toArray, List.set_cons_zero, List.set_cons_succ]
                    refine wpAnyH_take (i := 9) (oi := { dst := some 248, op := Op.load 3 (Operand.tmp 247), type := 3, pos := "law.go:144", after := #[{ on := 8, ground := Ground.data }, { on := 2, ground := Ground.guard }], guard := some (2, false) }) (v := ?_) rfl (by kernel_rfl) (by kernel_rfl) (by kernel_rfl) (fun _ _ _ h => h) (Or.inl ⟨by rfl, ?_⟩) (by assumption) ?_
                    rotate_left
                    · (intro w hSw; (try dsimp only at hSw); go_simp); (try with_reducible rfl)
                    try simp only [Act.put, List.setIfInBounds_toArray, List.set_cons_zero, List.set_cons_succ]
                    refine wpAnyH_take (i := 10) (oi := { dst := some 249, op := Op.move (Operand.tmp 12), type := 25, pos := "law.go:144", after := #[{ on := 2, ground := Ground.guard }], guard := some (2, false) }) (v := ?_) rfl (by kernel_rfl) (by kernel_rfl) (by kernel_rfl) (fun _ _ _ h => h) (Or.inl ⟨by rfl, ?_⟩) (by assumption) ?_
                    rotate_left
                    · (intro w hSw; (try dsimp only at hSw); go_simp); (try with_reducible rfl)
                    try simp only [Act.put, List.setIfInBounds_toArray, List.set_cons_zero, List.set_cons_succ]
                    refine wpAnyH_take (i := 11) (oi := { dst := some 250, op := Op.move (Operand.tmp 12), type := 25, pos := "law.go:144", after := #[{ on := 2, ground := Ground.guard }], guard := some (2, false) }) (v := ?_) rfl (by kernel_rfl) (by kernel_rfl) (by kernel_rfl) (fun _ _ _ h => h) (Or.inl ⟨by rfl, ?_⟩) (by assumption) ?_
                    rotate_left
                    · (intro w hSw; (try dsimp only at hSw); go_simp); (try with_reducible rfl)
                    try simp only [Act.put, List.setIfInBounds_toArray, List.set_cons_zero, List.set_cons_succ]
                    refine wpAnyH_take (i := 12) (oi := { dst := some 251, op := Op.call { callee := Callee.builtin Builtin.len, args := #[Operand.tmp 250], argTypes := #[25] }, type := 3, pos := "law.go:144", after := #[{ on := 11, ground := Ground.data }, { on := 2, ground := Ground.guard }], guard := some (2, false) }) (v := ?_) rfl (by kernel_rfl) (by kernel_rfl) (by kernel_rfl) (fun _ _ _ h => h) (Or.inl ⟨by rfl, ?_⟩) (by assumption) ?_
                    rotate_left
                    · (intro w hSw; (try dsimp only at hSw); go_simp); (try with_reducible rfl)
                    try simp only [Act.put, List.setIfInBounds_toArray, List.set_cons_zero, List.set_cons_succ]
                    refine wpAnyH_take (i := 13) (oi := { dst := some 252, op := Op.binOp BinOp.sub 3 (Operand.tmp 251) (Operand.const (Value.int IntKind.i64 1)) 3, type := 3, pos := "law.go:144", after := #[{ on := 12, ground := Ground.data }, { on := 2, ground := Ground.guard }], guard := some (2, false) }) (v := ?_) rfl (by kernel_rfl) (by kernel_rfl) (by kernel_rfl) (fun _ _ _ h => h) (Or.inl ⟨by rfl, ?_⟩) (by assumption) ?_
                    rotate_left
                    · (intro w hSw; (try dsimp only at hSw); go_simp); (try with_reducible rfl)
                    try simp only [Act.put, List.setIfInBounds_toArray, List.set_cons_zero, List.set_cons_succ]
                    refine wpAnyH_take (i := 14) (oi := { dst := some 253, op := Op.indexAddr 25 (Operand.tmp 249) (Operand.tmp 252), type := 0, pos := "law.go:144", after := #[{ on := 10, ground := Ground.data }, { on := 13, ground := Ground.data }, { on := 2, ground := Ground.guard }], guard := some (2, false) }) (v := ?_) rfl (by kernel_rfl) (by kernel_rfl) (by kernel_rfl) (fun _ _ _ h => h) (Or.inl ⟨by rfl, ?_⟩) (by assumption) ?_
                    rotate_left
                    · (intro w hSw; (try dsimp only at hSw); go_simp); (try with_reducible rfl)
                    try simp only [Act.put, List.setIfInBounds_toArray, List.set_cons_zero, List.set_cons_succ]
                    refine wpAnyH_take (i := 15) (oi := { dst := some 254, op := Op.fieldAddr 39 (Operand.tmp 253) 0, type := 0, pos := "law.go:144", after := #[{ on := 14, ground := Ground.data }, { on := 2, ground := Ground.guard }], guard := some (2, false) }) (v := ?_) rfl (by kernel_rfl) (by kernel_rfl) (by kernel_rfl) (fun _ _ _ h => h) (Or.inl ⟨by rfl, ?_⟩) (by assumption) ?_
                    rotate_left
                    · (intro w hSw; (try dsimp only at hSw); go_simp); (try with_reducible rfl)
                    try simp only [Act.put, List.setIfInBounds_toArray, List.set_cons_zero, List.set_cons_succ]
                    refine wpAnyH_take (i := 16) (oi := { dst := some 255, op := Op.load 3 (Operand.tmp 254), type := 3, pos := "law.go:144", after := #[{ on := 15, ground := Ground.data }, { on := 2, ground := Ground.guard }], guard := some (2, false) }) (v := ?_) rfl (by kernel_rfl) (by kernel_rfl) (by kernel_rfl) (fun _ _ _ h => h) (Or.inl ⟨by rfl, ?_⟩) (by assumption) ?_
                    rotate_left
                    · (intro w hSw; (try dsimp only at hSw); go_simp); (try with_reducible rfl)
                    try simp only [Act.put, List.setIfInBounds_toArray, List.set_cons_zero, List.set_cons_succ]
                    refine wpAnyH_take (i := 17) (oi := { dst := some 256, op := Op.binOp BinOp.neq 3 (Operand.tmp 248) (Operand.tmp 255) 3, type := 4, pos := "law.go:144", after := #[{ on := 9, ground := Ground.data }, { on := 16, ground := Ground.data }, { on := 2, ground := Ground.guard }], guard := some (2, false) }) (v := ?_) rfl (by kernel_rfl) (by kernel_rfl) (by kernel_rfl) (fun _ _ _ h => h) (Or.inl ⟨by rfl, ?_⟩) (by assumption) ?_
                    rotate_left
                    · (intro w hSw; (try dsimp only at hSw); go_simp); (try with_reducible rfl)
                    try simp only [Act.put, List.setIfInBounds_toArray, List.set_cons_zero, List.set_cons_succ]
                    refine wpAnyH_take (i := 18) (oi := { dst := some 257, op := Op.pick (Operand.tmp 241) (Operand.const (Value.bool true)) (Operand.tmp 256), type := 4, pos := "law.go:144", after := #[{ on := 2, ground := Ground.data }, { on := 17, ground := Ground.data }], guard := none }) (v := ?_) rfl (by kernel_rfl) (by kernel_rfl) (by kernel_rfl) (fun _ _ _ h => h) (Or.inl ⟨by rfl, ?_⟩) (by assumption) ?_
                    rotate_left
                    · (intro w hSw; (try dsimp only at hSw); go_simp); (try with_reducible rfl)
                    try simp only [Act.put, List.setIfInBounds_toArray, List.set_cons_zero, List.set_cons_succ]
                    refine wpAnyH_done (by kernel_rfl) ?_ _
                    refine NoPanic.normal ?_
                    have hI := Lib.hid (hI.out.below b0s)
                    have hcl33 := (HCL.out _ b0s).1
                    have hAck := acked_lo (z := yn) hI.out.m.now (Nat.le_refl _) (by have := Hkl6.out; omega)
                    rw [Hkl6.out] at hAck
                    have HAck := Lib.hid hAck
                    clear hAck HCL b0s
                    go_wp2_with fail
                    refine HAck.out.mono ?_
                    rintro e w15 ⟨A15, c15, K15, rfl, hK15, o15, ok15, b15, lo15⟩
                    have hI := Lib.hid (hI.out.setm b15 o15 ok15 (lo15 _ (Nat.le_refl _)))
                    have z15 := b15.size
                    have hO2 := Lib.hid (show SO (i + 1) (20 + q) (K15.map Shn.p) (Kc.map Shn.p) ((Ka ++ [xl]).map Shn.p) p by rw [hK15]; exact hO2.out)
                    have zdr : ws.drew.heap.size = ws.heap.size := rfl
                    clear HAck o15 ok15 b15 lo15 hK15 hcl33
                    go_wp2_with fail
                    go_roundg (N - (i + 1))
                    case measure => have := HG.out; omega
                    case rel => exact ⟨i + 1, A15, c15, K15, _, cc, Kc, A7, c7, Ka ++ [xl], p, rfl, by omega, rfl, by rw [Hkk.out], by rw [Hlen7.out], by go_num, hI, hO2, by omega⟩
    · obtain rfl : i = N := by omega
      have bb := hI.out.b
      clear hI hO
      by_cases h2 : l.length ≤ i
      · have h2I : ¬ ((i : Int) < l.length) := by omega
        go_wp2_with fail
        go_ret
        exact ⟨rfl, bb⟩
      · have h2I : (i : Int) < l.length := by omega
        have h3I : ¬ ((i : Int) < 20) := by omega
        go_wp2_with fail
        go_ret
        exact ⟨rfl, bb⟩
end Go.Proofs.Ytfeeincglijmjaa
