/- The walk of DiffParts. -/
import Derived.Test.YtfeeincglijmjaaFE
import Derived.Test.YtfeeincglijmjaaFP
namespace Go.Proofs.Ytfeeincglijmjaa
open Go.RowKit
set_option linter.unusedVariables false
set_option linter.unusedSimpArgs false
attribute [local go_sem ↓] Go.wp_at_zero Go.wp_at_succ

/-- Some of values, and of what they read as, by their places. -/
theorem Ps.pick {w : World} {lo up : Nat} {vs : List Value} {ps : List (List UInt8)} (h : Ps w lo up vs ps) {ks : List Nat} (hk : ∀ k ∈ ks, k < ps.length) : Ps w lo up (ks.map fun k => vs.getD k undef) (ks.map fun k => ps.getD k []) := by
  refine ⟨by simp, fun i v p h1 h2 => ?_⟩
  simp only [List.getElem?_map, Option.map_eq_some_iff] at h1 h2
  obtain ⟨k, hk1, rfl⟩ := h1
  obtain ⟨k', hk2, rfl⟩ := h2
  rw [hk1] at hk2
  injection hk2 with hk2
  subst hk2
  have hlt := hk k (List.mem_of_getElem? hk1)
  have hlt2 : k < vs.length := by rw [h.1]; exact hlt
  rw [List.getD_eq_getElem?_getD, List.getD_eq_getElem?_getD, List.getElem?_eq_getElem hlt, List.getElem?_eq_getElem hlt2]
  exact h.2 k vs[k] ps[k] (List.getElem?_eq_getElem hlt2) (List.getElem?_eq_getElem hlt)
theorem parts_pick {l : List UInt8} {s m : Nat} {ks : List Nat} (hk : ∀ k ∈ ks, k < m) : (ks.map fun k => ((List.range m).map (cPart l s m)).getD k []) = ks.map (cPart l s m) := by
  refine List.map_congr_left (fun k h => ?_)
  have := hk k h
  simp [List.getD_eq_getElem?_getD, List.getElem?_map, List.getElem?_range this]
theorem diffparts_long {lo up : Nat} {A : Option Addr} {n c : Nat} {l : List UInt8} {x1 x2 x3 x4 : Int} {w : World} (hs : Sl w lo up 1 A n c (byteCells l)) (hup : up ≤ w.heap.size) (h : 500 < n) :
    Calls Try.prog 7 #[.slice A n c, .int .u16 x1, .int .u8 x2, .int .u8 x3, .int .u8 x4] w fun e w' => e = .returned (.bool true) ∧ Below w.heap.size w w' := by
  have HA := Lib.hid (awake19_any w)
  have hn : (500 : Int) < n := by omega
  clear hs
  go_enter Try.func7, Try.ntmps7
  go_wp2_with fail
  refine HA.out.mono ?_
  rintro e w1 ⟨rfl, b1⟩
  go_wp2_with fail
  go_ret
  exact ⟨rfl, b1⟩
set_option maxHeartbeats 16000000 in
set_option maxRecDepth 100000 in
theorem diffparts_any {lo up : Nat} {A : Option Addr} {n c : Nat} {l : List UInt8} {x1 x2 x3 x4 : Int} {w : World} (hs : Sl w lo up 1 A n c (byteCells l)) (hup : up ≤ w.heap.size) (h : n ≤ 500) (h1 : 0 ≤ x1 ∧ x1 ≤ 65535) (h2 : 0 ≤ x2 ∧ x2 ≤ 255) (h3 : 0 ≤ x3 ∧ x3 ≤ 255) (h4 : 0 ≤ x4 ∧ x4 ≤ 255) :
    Calls Try.prog 7 #[.slice A n c, .int .u16 x1, .int .u8 x2, .int .u8 x3, .int .u8 x4] w fun e w' => e = .returned (.bool true) ∧ Below w.heap.size w w' := by
  have HA := Lib.hid (awake19_any w)
  obtain ⟨i0, hi0, hz0, hz1, hz2⟩ := info_parts info23
  have hl0 : n = l.length := by have := hs.len; rw [byteCells_length] at this; omega
  subst hl0
  have hn : (l.length : Int) ≤ 500 := by omega
  have HS := Lib.hid hs
  obtain ⟨s, hse⟩ : ∃ s, s = cSz x1 := ⟨_, rfl⟩
  obtain ⟨m, hme⟩ : ∃ m, m = cMany l.length s := ⟨_, rfl⟩
  have hsb := cSz_bnd x1
  rw [← hse] at hsb
  have hm1 : 1 ≤ m := by rw [hme]; exact (cMany_bnd (i := 0) hsb.1 (by omega)).1
  have hm2 : m ≤ 42 := by rw [hme]; exact many_le hsb.1 h
  have hm3 : l.length ≤ m * s := by rw [hme]; exact many_ge (by omega)
  have hcp : cParts l x1 = (List.range m).map (cPart l s m) := by unfold cParts; rw [← hse, ← hme]
  have HCP := Lib.hid hcp
  have hsn : (s : Int) = min (max x1 20) 2048 - 8 := by rw [hse]; unfold cSz; omega
  have HSN := Lib.hid hsn
  obtain ⟨h10, h11⟩ := h1
  obtain ⟨h20, h21⟩ := h2
  obtain ⟨h30, h31⟩ := h3
  obtain ⟨h40, h41⟩ := h4
  have HC := Lib.hid (fun W (b : Below w.heap.size w W) => cut_any (z := x1) (hs.below b hup) (Nat.le_trans hup b.size) (by omega))
  rw [hcp] at HC
  clear hs hcp hse hme hsn
  have hmI : (1 : Int) ≤ m := by omega
  have hmI2 : (m : Int) ≤ 42 := by omega
  go_enter Try.func7, Try.ntmps7
  go_wp2_with fail
  refine HA.out.mono ?_
  rintro e w1 ⟨rfl, b1⟩
  go_upto_region 4 with fail
  go_cut [12] (fun s12 wx => s12 = .int .i64 ((s : Int) + 8) ∧ w1 = wx)
  case first =>
    have hs3 := HSN.out
    rcases Int.lt_or_le x1 20 with h1 | h1
    · have hs4 : (s : Int) = 12 := by omega
      clear hs3
      go_wp2_with fail
      go_meet
      exact ⟨by rw [hs4]; rfl, rfl⟩
    · rcases Int.lt_or_le 2048 x1 with h2 | h2
      · have hs4 : (s : Int) = 2040 := by omega
        clear hs3
        go_wp2_with fail
        go_meet
        exact ⟨by rw [hs4]; rfl, rfl⟩
      · have hs4 : (s : Int) = x1 - 8 := by omega
        clear hs3
        go_wp2_with fail
        go_meet
        exact ⟨by rw [hs4]; congr 1; omega, rfl⟩
  case rest =>
    obtain ⟨rfl, rfl⟩ := hcut
    clear HSN
    go_wp2_with fail
    refine (HC.out _ b1).mono ?_
    rintro e w2 ⟨A2, c2, vs, rfl, own2, bs2, b2⟩
    have z1 := b1.size
    have z2 := b2.size
    have bb2 := b1.trans (b2.mono z1)
    simp only [List.length_map, List.length_range] at own2 ⊢
    have sv := Sl.of_own own2
    obtain ⟨b, o, rfl, hb1, hb2, hc⟩ := sv.at_ (by omega)
    have hvl : vs.length = m := by have := own2.1; omega
    have hce : ∀ k, k < m → ∃ A3 c3, vs.getD k undef = .slice A3 (cPart l s m k).length c3 ∧ w2.cell? ⟨b, o + k, none⟩ = some (.slice A3 (cPart l s m k).length c3) := by
      intro k hk
      obtain ⟨A3, c3, e, _⟩ := bs2.2 k vs[k] (cPart l s m k) (List.getElem?_eq_getElem (by omega)) (by rw [List.getElem?_map, List.getElem?_range hk]; rfl)
      refine ⟨A3, c3, ?_, ?_⟩
      · rw [List.getD_eq_getElem?_getD, List.getElem?_eq_getElem (by omega), e]; rfl
      · rw [hc k (by omega), List.getElem?_eq_getElem (by omega), e]
    have HCE := Lib.hid hce
    have HPS := Lib.hid bs2.ps
    have Hbb2 := Lib.hid bb2
    clear hce hc sv own2 bs2 b2 b1 bb2 hvl HC
    obtain ⟨t, rfl⟩ : ∃ t : Nat, x2 = t := ⟨x2.toNat, by omega⟩
    obtain ⟨ag, rfl⟩ : ∃ t : Nat, x3 = t := ⟨x3.toNat, by omega⟩
    obtain ⟨gn, rfl⟩ : ∃ t : Nat, x4 = t := ⟨x4.toNat, by omega⟩
    have hz2' : w.heap.size ≤ w2.heap.size := by omega
    go_wp2_with fail
    go_loopg [14, 15] m (fun gh s14 s15 wr => ∃ (i : Nat) (A : Option Addr) (c : Nat), gh = m - i ∧ i ≤ m ∧ s15 = .int .i64 i ∧ s14 = .slice A i c ∧ wr.ownsRow w2.heap.size 23 1 (.slice A i c) i (((List.range i).map fun j => (j + t) % m).map fun k => vs.getD k undef) ∧ Below w2.heap.size w2 wr)
    case atStart => exact ⟨0, none, 0, rfl, Nat.zero_le _, rfl, rfl, World.ownsRow_nil _ _ _ _, Below.refl _ _⟩
    case round =>
      obtain ⟨i, A3, c3, hgh, him, rfl, rfl, hown, bb⟩ := hrel
      have HG := Lib.hid hgh
      clear hgh
      have zz := bb.size
      by_cases hi : i < m
      · obtain ⟨A4, c4, -, k1⟩ := HCE.out i hi
        obtain ⟨k, hk⟩ : ∃ k, k = (i + t) % m := ⟨_, rfl⟩
        have hkm : k < m := by rw [hk]; exact Nat.mod_lt _ (by omega)
        have hrem : ((i : Int) + (t : Int)) % (m : Int) = k := by rw [hk]; simp
        have hremt : Int.tmod ((i : Int) + (t : Int)) (m : Int) = k := by rw [Int.tmod_eq_emod_of_nonneg (by omega)]; exact hrem
        obtain ⟨A5, c5, ev, k2⟩ := HCE.out k hkm
        have k1' := (bb.cell (p := ⟨b, o + i, none⟩) hb2).trans k1
        have k2' := (bb.cell (p := ⟨b, o + k, none⟩) hb2).trans k2
        have hpl : ((cPart l s m i).length : Int) ≤ (s : Int) + 8 := by have := cPart_len (l := l) (s := s) (m := m) (k := i) (by omega) (by omega); omega
        have a1 := addr_add b o i
        have a2 := addr_add b o k
        have hi3 : (i : Int) < m := by omega
        have hk3 : (k : Int) < m := by omega
        have Hk := Lib.hid hk
        have Hev := Lib.hid ev
        clear k1 k2 hk ev
        generalize (cPart l s m i).length = L1 at *
        generalize hL2 : (cPart l s m k).length = L2 at *
        clear hL2
        have HOWN := Lib.hid hown
        go_wp2_with (at_builtin; refine wpList_append_sl _ rfl (.tmp 51) (.tmp 62) 29 rfl w2.heap.size 23 i0 _ 1 24 Try.underlying29 hi0 hz0 hz1 hz2 rfl (by omega) (.slice A3 i c3) i _ rfl (own_alloc HOWN.out _) wr.heap.size (wr.heap.size + 1) (some ⟨wr.heap.size, 0, none⟩) 1 1 [.slice A5 L2 c5] rfl (Sl.new wr 23 #[.slice A5 L2 c5] 1 1 1 _ rfl (Nat.le_refl _) rfl rfl) (by intro u hu; simp at hu; subst hu; rfl) (i + 1) rfl _ rfl (by unfold maxLen; omega) (by omega) (by simp; omega) ?_; intro A6 c6 w6 hown6 hg6; have Hown6 := Lib.hid hown6; have Hg6 := Lib.hid hg6; clear hown6 hg6)
        go_roundg (m - (i + 1))
        case measure => have := HG.out; omega
        case rel =>
          refine ⟨i + 1, A6, c6, rfl, by omega, by go_num, rfl, ?_, (bb.alloc zz _).grown Hg6.out (by simp; omega) (fun g e => ((own_alloc HOWN.out (.cells #[.slice A5 L2 c5] 23)).lt g e).1)⟩
          have := Hown6.out
          rw [List.range_succ, List.map_append, List.map_append, List.map_cons, List.map_nil, List.map_cons, List.map_nil, ← Hk.out, Hev.out]
          exact this
      · obtain rfl : i = m := by omega
        obtain ⟨k, hk⟩ : ∃ k, k = ag % i := ⟨_, rfl⟩
        have hkm : k < i := by rw [hk]; exact Nat.mod_lt _ (by omega)
        have hrem : (ag : Int) % (i : Int) = k := by rw [hk]; simp
        have hremt : Int.tmod (ag : Int) (i : Int) = k := by rw [Int.tmod_eq_emod_of_nonneg (by omega)]; exact hrem
        obtain ⟨A5, c5, ev, k2⟩ := HCE.out k hkm
        have k2' := (bb.cell (p := ⟨b, o + k, none⟩) hb2).trans k2
        have a2 := addr_add b o k
        have hk3 : (k : Int) < i := by omega
        have Hk := Lib.hid hk
        have Hev := Lib.hid ev
        clear k2 hk ev
        obtain ⟨L2, hL2⟩ : ∃ L2, L2 = (cPart l s i k).length := ⟨_, rfl⟩
        rw [← hL2] at k2' Hev
        clear hL2
        have HOWN := Lib.hid hown
        obtain ⟨ks, hks⟩ : ∃ ks, ks = ((List.range i).map fun j => (j + t) % i) ++ [k] := ⟨_, rfl⟩
        have hks1 : ∀ j ∈ ks, j < i := by
          intro j hj
          rw [hks, List.mem_append, List.mem_map, List.mem_singleton] at hj
          rcases hj with ⟨a, _, rfl⟩ | rfl
          · exact Nat.mod_lt _ (by omega)
          · exact hkm
        have hks2 : ∀ j, j < i → j ∈ ks := by
          intro j hj
          rw [hks, List.mem_append, List.mem_map]
          left
          refine ⟨(j + (i - t % i)) % i, List.mem_range.2 (Nat.mod_lt _ (by omega)), ?_⟩
          have ht := Nat.mod_lt t (show 0 < i by omega)
          rw [Nat.add_mod, Nat.mod_mod, ← Nat.add_mod, Nat.add_assoc, Nat.add_mod, show (i - t % i + t) % i = 0 from by
            have h1 : i - t % i + t = i + i * (t / i) := by have := Nat.mod_add_div t i; omega
            rw [h1, Nat.add_mul_mod_self_left, Nat.mod_self], Nat.add_zero, Nat.mod_mod, Nat.mod_eq_of_lt hj]
        have hks3 : ks.length = i + 1 := by rw [hks]; simp
        have Hrow : Hid ((((List.range i).map fun j => (j + t) % i).map fun k => vs.getD k undef) ++ [.slice A5 L2 c5] = ks.map fun k => vs.getD k undef) := Lib.hid (by rw [hks, List.map_append, List.map_cons, List.map_nil, Hev.out])
        have Hks1 := Lib.hid hks1
        have Hks2 := Lib.hid hks2
        have Hks3 := Lib.hid hks3
        clear hks hks1 hks2 hks3 hown
        go_wp2_with (at_builtin; refine wpList_append_sl _ rfl (.tmp 64) (.tmp 73) 29 rfl w2.heap.size 23 i0 _ 1 24 Try.underlying29 hi0 hz0 hz1 hz2 rfl (by omega) (.slice A3 i c3) i _ rfl (own_alloc HOWN.out _) wr.heap.size (wr.heap.size + 1) (some ⟨wr.heap.size, 0, none⟩) 1 1 [.slice A5 L2 c5] rfl (Sl.new wr 23 #[.slice A5 L2 c5] 1 1 1 _ rfl (Nat.le_refl _) rfl rfl) (by intro u hu; simp at hu; subst hu; rfl) (i + 1) rfl _ rfl (by unfold maxLen; omega) (by omega) (by simp; omega) ?_; intro A6 c6 w6 hown6 hg6; have Hbb6 := Lib.hid ((bb.alloc zz (.cells #[.slice A5 L2 c5] 23)).grown hg6 (by simp; omega) (fun g e => ((own_alloc HOWN.out (.cells #[.slice A5 L2 c5] 23)).lt g e).1)); rw [Hrow.out] at hown6; have Hown6 := Lib.hid hown6; clear hown6 hg6)
        have hcl : ∀ p ∈ ks.map (cPart l s i), p.length ≤ 3000 := by
          intro p hp
          rw [List.mem_map] at hp
          obtain ⟨j, hj, rfl⟩ := hp
          have := Hks1.out j hj
          have := cPart_len (l := l) (s := s) (m := i) (k := j) (by omega) (by omega)
          omega
        have hps := (HPS.out.pick (ks := ks) (fun j hj => by simp; exact Hks1.out j hj)).below Hbb6.out (Nat.le_refl _)
        rw [parts_pick (fun j hj => Hks1.out j hj)] at hps
        have z6 := Hbb6.out.size
        have HJ := diffjoin_any (Sl.of_own Hown6.out) (Nat.le_refl _) hps (by omega) (by omega) hcl
        rw [join_all (by omega) hm1 hm3 Hks1.out Hks2.out] at HJ
        clear hps hcl
        refine HJ.mono ?_
        rintro e w7 ⟨A7, c7, rfl, o7, b7⟩
        have z7 := b7.size
        have bb7 := Hbb6.out.trans (b7.mono (by omega))
        have Hsj := Lib.hid (Sl.of_own o7)
        clear HJ b7 o7 bb k2' hrem hremt HOWN Hrow Hks1 Hks2 Hks3 Hev Hk
        obtain ⟨g, hg⟩ : ∃ g, g = gn % i := ⟨_, rfl⟩
        have hgm : g < i := by rw [hg]; exact Nat.mod_lt _ (by omega)
        have hrem : (gn : Int) % (i : Int) = g := by rw [hg]; simp
        have hremt : Int.tmod (gn : Int) (i : Int) = g := by rw [Int.tmod_eq_emod_of_nonneg (by omega)]; exact hrem
        clear hg
        go_wp2_with fail
        go_loopg [18, 19] i (fun gh s18 s19 wr => ∃ (j : Nat) (A : Option Addr) (c q : Nat), gh = i - j ∧ j ≤ i ∧ q ≤ j ∧ s19 = .int .i64 j ∧ s18 = .slice A q c ∧ wr.ownsRow w7.heap.size 23 1 (.slice A q c) q (((List.range j).filter fun x => x != g).map fun k => vs.getD k undef) ∧ Below w7.heap.size w7 wr)
        case atStart => exact ⟨0, none, 0, 0, rfl, Nat.zero_le _, Nat.le_refl _, rfl, rfl, World.ownsRow_nil _ _ _ _, Below.refl _ _⟩
        case round =>
          obtain ⟨j, A8, c8, q, hgh, hji, hqj, rfl, rfl, hown, bb⟩ := hrel
          have HG := Lib.hid hgh
          clear hgh
          have zz := bb.size
          by_cases hj : j < i
          · by_cases hjg : j = g
            · subst hjg
              have Hown := Lib.hid hown
              clear hown
              go_wp2_with fail
              go_roundg (i - (j + 1))
              case measure => have := HG.out; omega
              case rel =>
                refine ⟨j + 1, A8, c8, q, rfl, by omega, by omega, by go_num, rfl, ?_, bb⟩
                rw [List.range_succ, List.filter_append]
                simpa using Hown.out
            · obtain ⟨A9, c9, ev, k2⟩ := HCE.out j hj
              have k2' := ((bb7.trans (bb.mono (by omega))).cell (p := ⟨b, o + j, none⟩) hb2).trans k2
              have a2 := addr_add b o j
              have hj3 : (j : Int) < i := by omega
              have hd1 : ((j : Int) != (g : Int)) = true := by simp; omega
              have hd2 : (j != g) = true := by simp [hjg]
              have Hd2 := Lib.hid hd2
              have hjgI : ¬ ((j : Int) = (g : Int)) := by omega
              have Hev := Lib.hid ev
              clear k2 ev
              obtain ⟨L2, hL2⟩ : ∃ L2, L2 = (cPart l s i j).length := ⟨_, rfl⟩
              rw [← hL2] at k2' Hev
              clear hL2
              have HOWN := Lib.hid hown
              clear hown
              go_wp2_with (at_builtin; refine wpList_append_sl _ rfl (.tmp 93) (.tmp 98) 29 rfl w7.heap.size 23 i0 _ 1 24 Try.underlying29 hi0 hz0 hz1 hz2 rfl (by omega) (.slice A8 q c8) q _ rfl (own_alloc HOWN.out _) wr.heap.size (wr.heap.size + 1) (some ⟨wr.heap.size, 0, none⟩) 1 1 [.slice A9 L2 c9] rfl (Sl.new wr 23 #[.slice A9 L2 c9] 1 1 1 _ rfl (Nat.le_refl _) rfl rfl) (by intro u hu; simp at hu; subst hu; rfl) (q + 1) rfl _ rfl (by unfold maxLen; omega) (by omega) (by simp; omega) ?_; intro A10 c10 w10 hown10 hg10; have Hown10 := Lib.hid hown10; have Hg10 := Lib.hid hg10; clear hown10 hg10)
              go_roundg (i - (j + 1))
              case measure => have := HG.out; omega
              case rel =>
                refine ⟨j + 1, A10, c10, q + 1, rfl, by omega, by omega, by go_num, rfl, ?_, (bb.alloc zz _).grown Hg10.out (by simp; omega) (fun g e => ((own_alloc HOWN.out (.cells #[.slice A9 L2 c9] 23)).lt g e).1)⟩
                have := Hown10.out
                rw [List.range_succ, List.filter_append, List.map_append]
                have e2 : ([j].filter fun x => x != g) = [j] := by simp [Hd2.out]
                rw [e2, List.map_cons, List.map_nil, Hev.out]
                exact this
          · obtain rfl : j = i := by omega
            obtain ⟨ks, hks⟩ : ∃ ks, ks = ((List.range j).filter fun x => x != g) := ⟨_, rfl⟩
            rw [← hks] at hown
            have hks1 : ∀ x ∈ ks, x < j := fun x hx => by
              rw [hks, List.mem_filter] at hx
              exact List.mem_range.1 hx.1
            have hks2 : g ∉ ks := fun hx => by
              rw [hks, List.mem_filter] at hx
              simp at hx
            have hcl : ∀ p ∈ ks.map (cPart l s j), p.length ≤ 3000 := by
              intro p hp
              rw [List.mem_map] at hp
              obtain ⟨x, hx, rfl⟩ := hp
              have := hks1 x hx
              have := cPart_len (l := l) (s := s) (m := j) (k := x) (by omega) (by omega)
              omega
            have hps := ((HPS.out.pick (ks := ks) (fun x hx => by simp; exact hks1 x hx)).below bb7 (Nat.le_refl _)).below bb (by omega)
            rw [parts_pick hks1] at hps
            have HJ := diffjoin_any (Sl.of_own hown) (Nat.le_refl _) hps (by omega) (by omega) hcl
            rw [join_gone (by omega) hgm hks1 hks2] at HJ
            have HJ := Lib.hid HJ
            have bb8 := Hbb2.out.trans ((bb7.trans (bb.mono (by omega))).mono (by omega))
            have hsl := HS.out.below bb8 hup
            have sj := Hsj.out.below bb (Nat.le_refl _)
            clear hps hcl hks hown hks1 hks2 bb bb7
            go_wp2_with fail
            refine HJ.out.mono ?_
            rintro e w11 ⟨A11, c11, rfl, o11, b11⟩
            have z11 := b11.size
            have q1 := run_string_of (sj.below b11 (by omega)) Try.underlying23 Try.underlying5 Try.underlying9
            have q2 := run_string_of (hsl.below b11 (by omega)) Try.underlying23 Try.underlying5 Try.underlying9
            have bb12 := bb8.trans (b11.mono (by omega))
            clear sj hsl b11 bb8 o11
            go_wp2_with fail
            go_ret
            exact ⟨rfl, bb12⟩
end Go.Proofs.Ytfeeincglijmjaa
