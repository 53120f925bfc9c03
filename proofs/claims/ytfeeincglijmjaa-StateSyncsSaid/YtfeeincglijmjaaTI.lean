/- The walk of StateOnce. -/
import Derived.Test.YtfeeincglijmjaaTH
import Derived.Deep.DeepCutAuto
import Derived.Deep.RegionHeld3
namespace Go.Proofs.Ytfeeincglijmjaa
open Go.RowKit
set_option linter.unusedVariables false
set_option linter.unusedSimpArgs false
attribute [local go_sem ↓] Go.wp_at_zero Go.wp_at_succ

theorem step_stp {ops : Array Oper} {a : Act} {w W' : World} {K : Act → World → Prop} {Q : Exit → Act → World → Prop} {E : Prop} {dst : Option Tmp} {x y : Operand} {ty : TypeId} {pos : String} {after : Array _} {g : Nat} {v : Array Value} (hst : (Instr.storeAt 31 (.pointer (some ⟨g, 0, none⟩)) (.agg v)).run Try.prog w = .ok () W')
    (hxy : a.eval x = .pointer (some ⟨g, 0, none⟩) ∧ a.eval y = .agg v) (h : K (a.put dst undef) W') :
    if Region.wanted ⟨dst, .store 31 x y, ty, pos, after, none⟩ (yielded ops a.tmps) = true then Oper.wp Try.prog ⟨dst, .store 31 x y, ty, pos, after, none⟩ a w K Q else E := by
  rw [if_pos (by simp [Region.wanted])]
  unfold Oper.wp execOp
  simp only [hxy.1, hxy.2, Sem.run_bind, hst, Result.andThen_ok]
  exact h
/-- What Collect hands back, laid into a new box. -/
theorem RetCo.box2 {w w5 : World} {q : Int × Int × List (List UInt8)} {A : Option Addr} {c : Nat} {vs : List Value} {D : Option Addr} {nd cd : Nat} {d : List UInt8} (ho : w5.ownsRow w.heap.size 23 1 (.slice A q.2.2.length c) q.2.2.length vs) (hb : Bs w5 w.heap.size vs q.2.2)
    (hd : w5.ownsRow w.heap.size 5 1 (.slice D nd cd) nd (byteCells d)) :
    PBox (w5.alloc (.cells #[.int .i64 q.1, .int .i64 q.2.1, .slice A q.2.2.length c] 31)) w.heap.size w5.heap.size q ∧ (w5.alloc (.cells #[.int .i64 q.1, .int .i64 q.2.1, .slice A q.2.2.length c] 31)).ownsRow w.heap.size 5 1 (.slice D nd cd) nd (byteCells d) :=
  ⟨⟨A, c, vs, Blk.new w5 31 _ rfl, own_alloc ho _, hb.below ((Below.refl _ _).alloc (Nat.le_refl _) _) (Nat.le_refl _)⟩, own_alloc hd _⟩
set_option maxRecDepth 100000 in
theorem once_long {lo up : Nat} {A : Option Addr} {n c : Nat} {l : List UInt8} {x1 x2 x3 : Int} {w : World} (hs : Sl w lo up 1 A n c (byteCells l)) (hup : up ≤ w.heap.size) (h : 500 < n) :
    Calls Try.prog 4 #[.slice A n c, .int .u16 x1, .int .u16 x2, .int .u8 x3] w fun e w' => e = .returned (.bool true) ∧ Below w.heap.size w w' := by
  have HA := Lib.hid (awake12_any w)
  have hn : (500 : Int) < n := by omega
  clear hs
  go_enter Try.func4, Try.ntmps4
  go_wp2_with fail
  refine HA.out.mono ?_
  rintro e w1 ⟨rfl, b1⟩
  go_wp2_with fail
  go_ret
  exact ⟨rfl, b1⟩
/-- The places of parts, each with its bytes. -/
theorem parts_at {w : World} {base b o m c : Nat} {vs : List Value} {l : List UInt8} {s : Nat} (ho : w.ownsRow base 23 1 (.slice (some ⟨b, o, none⟩) m c) m vs) (hb : Bs w base vs ((List.range m).map (cPart l s m))) :
    ∀ k, k < m → ∃ A c, w.cell? ⟨b, o + k, none⟩ = some (.slice A (cPart l s m k).length c) ∧ Sl w base w.heap.size 1 A (cPart l s m k).length c (byteCells (cPart l s m k)) := by
  intro k hk
  have hvl : vs.length = m := by have := ho.1; omega
  obtain ⟨A, c', e, hr⟩ := hb.2 k vs[k] (cPart l s m k) (List.getElem?_eq_getElem (by omega)) (by rw [List.getElem?_map, List.getElem?_range hk]; rfl)
  obtain ⟨b', o', e', _, _, hc⟩ := (Sl.of_own ho).at_ (by omega)
  injection e' with e'
  injection e' with e1 e2
  subst e1 e2
  exact ⟨A, c', by rw [hc k (by omega), List.getElem?_eq_getElem (by omega), e], Sl.of_own hr⟩

set_option maxHeartbeats 16000000 in
set_option maxRecDepth 100000 in
theorem once_any {lo up : Nat} {A : Option Addr} {n c : Nat} {l : List UInt8} {x1 x2 x3 : Int} {w : World} (hs : Sl w lo up 1 A n c (byteCells l)) (hup : up ≤ w.heap.size) (h : n ≤ 500) (h1 : 0 ≤ x1 ∧ x1 ≤ 65535) (h2 : 0 ≤ x2 ∧ x2 ≤ 65535) (h3 : 0 ≤ x3 ∧ x3 ≤ 255) :
    Calls Try.prog 4 #[.slice A n c, .int .u16 x1, .int .u16 x2, .int .u8 x3] w fun e w' => e = .returned (.bool true) ∧ Below w.heap.size w w' := by
  have HA := Lib.hid (awake12_any w)
  have hl0 : n = l.length := by have := hs.len; rw [byteCells_length] at this; omega
  subst hl0
  have hn : (l.length : Int) ≤ 500 := by omega
  have HSl := Lib.hid (fun W (b : Below w.heap.size w W) => hs.below b hup)
  obtain ⟨m, hme⟩ : ∃ m, m = cMany l.length 32 := ⟨_, rfl⟩
  have hm1 : 1 ≤ m := by rw [hme]; exact (cMany_bnd (i := 0) (by omega) (by omega)).1
  have hm2 : m ≤ 42 := by rw [hme]; exact many_le (by omega) h
  have hm3 : l.length ≤ m * 32 := by rw [hme]; exact many_ge (by omega)
  have hcp : cParts l 40 = (List.range m).map (cPart l 32 m) := by unfold cParts; rw [show cSz 40 = 32 from rfl, ← hme]
  obtain ⟨h10, h11⟩ := h1
  obtain ⟨h20, h21⟩ := h2
  obtain ⟨h30, h31⟩ := h3
  have HC := Lib.hid (fun W (b : Below w.heap.size w W) => cut_any (z := 40) (hs.below b hup) (Nat.le_trans hup b.size) (by omega))
  rw [hcp] at HC
  have Hm3 := Lib.hid hm3
  clear hs hcp hme hm3
  have hmI : (1 : Int) ≤ m := by omega
  have hmI2 : (m : Int) ≤ 42 := by omega
  have hm00 : 0 < m := by omega
  have hm0 : (m = 0) = False := eq_false (by omega)
  obtain ⟨t, rfl⟩ : ∃ t : Nat, x3 = t := ⟨x3.toNat, by omega⟩
  go_enter Try.func4, Try.ntmps4
  go_wp2_with fail
  refine HA.out.mono ?_
  rintro e w1 ⟨rfl, b1⟩
  go_wp2_with fail
  refine (HC.out _ b1).mono ?_
  rintro e w2 ⟨A2, c2, vs, rfl, own2, bs2, b2⟩
  have z1 := b1.size
  have bb2 := b1.trans (b2.mono z1)
  simp only [List.length_map, List.length_range] at own2 ⊢
  obtain ⟨b, o, rfl, hb1, hb2, -⟩ := (Sl.of_own own2).at_ (by omega)
  have HPT := Lib.hid (parts_at own2 bs2)
  have Hbb2 := Lib.hid bb2
  obtain ⟨w3, hst3, k3, b3, z3⟩ := prt_new w2 #[.int .i64 0, .int .i64 0, .slice none 0 0] rfl rfl
  have P3 : PBox w3 w2.heap.size w2.heap.size (onP x1 (1 + x2) l 32 m t 0) := ⟨none, 0, [], k3, World.ownsRow_nil _ _ _ _, Bs.nil _ _⟩
  have zz2 : w.heap.size ≤ w2.heap.size := bb2.size
  clear own2 bs2 b1 b2 HC HA k3 bb2
  have hwx1 : IntKind.i64.wrap x1 = x1 := IntWalk.i64_in _ (by omega)
  have hwx2 : IntKind.i64.wrap x2 = x2 := IntWalk.i64_in _ (by omega)
  have hwx3 : IntKind.i64.wrap (1 + x2) = 1 + x2 := IntWalk.i64_in _ (by omega)
  go_upto_region 8 with (first | ((with_reducible refine wpList_stp hst3 ?_ ?_); exact ⟨rfl, rfl⟩))
  clear hst3
  go_wp2_with fail
  go_loopg [12] m (fun gh s12 wr => ∃ i : Nat, gh = m - i ∧ i ≤ m ∧ s12 = .int .i64 i ∧ PBox wr w2.heap.size w2.heap.size (onP x1 (1 + x2) l 32 m t i) ∧ Below w2.heap.size w2 wr)
  case atStart => exact ⟨0, rfl, Nat.zero_le _, rfl, P3, b3⟩
  case round =>
    obtain ⟨i, hgh, him, rfl, hP, bb⟩ := hrel
    have HG := Lib.hid hgh
    clear hgh P3 b3 z3
    have zz := bb.size
    by_cases hi : i < m
    · obtain ⟨k, hk⟩ : ∃ k, k = (i + t) % m := ⟨_, rfl⟩
      have hkm : k < m := by rw [hk]; exact Nat.mod_lt _ (by omega)
      have hkI : (k : Int) < m := by omega
      have hwt : IntKind.i64.wrap (t : Int) = t := IntWalk.i64_in _ (by omega)
      have hwit : IntKind.i64.wrap ((i : Int) + (t : Int)) = (i : Int) + (t : Int) := IntWalk.i64_in _ (by omega)
      have hremt : Int.tmod ((i : Int) + (t : Int)) (m : Int) = k := by rw [Int.tmod_eq_emod_of_nonneg (by omega), hk]; simp
      have hwk : IntKind.i64.wrap (k : Int) = k := IntWalk.i64_in _ (by omega)
      obtain ⟨Ap, cp, kpt, slp⟩ := HPT.out k hkm
      obtain ⟨Ap0, cp0, kpt0, slp0⟩ := HPT.out 0 (by omega)
      have o1 := once1 (B := x1) (N := 1 + x2) (l := l) (s := 32) (m := m) (t := t) (i := i) (by omega) (by omega) hi Hm3.out
      have o2 := once2 (B := x1) (N := 1 + x2) (l := l) (s := 32) (m := m) (t := t) (i := i) (by omega) hi Hm3.out
      have o3 := once3 (B := x1) (N := 1 + x2) (n := x2) (G := (onKs m t (i + 1)).map (cPart l 32 m)) (part := cPart l 32 m 0) (by omega)
      have hpl : (cPart l 32 m k).length ≤ 3000 := by have := cPart_len (l := l) (s := 32) (m := m) (k := k) (by omega) (by omega); omega
      have hpl0 : (cPart l 32 m 0).length ≤ 3000 := by have := cPart_len (l := l) (s := 32) (m := m) (k := 0) (by omega) (by omega); omega
      have hGs : ∀ p ∈ (onKs m t (i + 1)).map (cPart l 32 m), p.length ≤ 3000 := by
        intro p hp
        rw [List.mem_map] at hp
        obtain ⟨j, hj, rfl⟩ := hp
        have := onKs_lt (m := m) (by omega) j hj
        have := cPart_len (l := l) (s := 32) (m := m) (k := j) (by omega) (by omega)
        omega
      have hGl : ((onKs m t (i + 1)).map (cPart l 32 m)).length = i + 1 := by simp [onKs]
      have hQ : (onP x1 (1 + x2) l 32 m t i).2.2.length ≤ 42 ∧ ∀ p ∈ (onP x1 (1 + x2) l 32 m t i).2.2, p.length ≤ 3000 := by
        unfold onP
        split
        · exact ⟨by simp, fun p hp => by cases hp⟩
        · refine ⟨by simp [onKs]; omega, fun p hp => hGs p ?_⟩
          rw [onKs_succ, List.map_append]
          exact List.mem_append_left _ hp
      have hN : onP x1 (1 + x2) l 32 m t (i + 1) = (x1, 1 + x2, (onKs m t (i + 1)).map (cPart l 32 m)) := by unfold onP; rw [if_neg (by omega)]
      have HN := Lib.hid hN
      rw [← hk] at o1 o2
      obtain ⟨⟨Bq, Nq, Gq⟩, hq⟩ : ∃ q, q = onP x1 (1 + x2) l 32 m t i := ⟨_, rfl⟩
      rw [← hq] at hP o1 hQ
      simp only at hP o1 hQ
      obtain ⟨pt, hpt⟩ : ∃ p, p = cPart l 32 m k := ⟨_, rfl⟩
      obtain ⟨pt0, hpt0⟩ : ∃ p, p = cPart l 32 m 0 := ⟨_, rfl⟩
      rw [← hpt] at o1 o2 kpt slp hpl
      rw [← hpt0] at o3 kpt0 slp0 hpl0
      obtain ⟨G1, hG1⟩ : ∃ G, G = (onKs m t (i + 1)).map (cPart l 32 m) := ⟨_, rfl⟩
      rw [← hG1] at o1 o2 o3 hGs hGl HN
      obtain ⟨d1, hd1⟩ : ∃ d, d = (if i + 1 = m then l else []) := ⟨_, rfl⟩
      rw [← hd1] at o1 o2
      obtain ⟨la, hla⟩ : ∃ x, x = decide (i + 1 = m) := ⟨_, rfl⟩
      rw [← hla] at o1 o2
      have Hd1 := Lib.hid hd1
      have Hla := Lib.hid hla
      have HO2 := Lib.hid o2
      have HO3 := Lib.hid o3
      have HGs := Lib.hid hGs
      have HGl := Lib.hid hGl
      have HSP := Lib.hid (show (w2.cell? ⟨b, o + k, none⟩ = some (.slice Ap pt.length cp) ∧ Sl w2 w1.heap.size w2.heap.size 1 Ap pt.length cp (byteCells pt)) ∧ w2.cell? ⟨b, o, none⟩ = some (.slice Ap0 pt0.length cp0) ∧ Sl w2 w1.heap.size w2.heap.size 1 Ap0 pt0.length cp0 (byteCells pt0) from ⟨⟨kpt, slp⟩, kpt0, slp0⟩)
      have ad := addr_add b o k
      have ad0 : (⟨b, o, none⟩ : Addr).add 0 = ⟨b, o, none⟩ := by rw [addr_add, Nat.add_zero]
      obtain ⟨Aq, cq, vq, kq, oq, bq⟩ := hP
      have HC := Lib.hid (fun W (q : Below wr.heap.size wr W) => (show Calls Try.prog 17 #[.agg #[.int .i64 Bq, .int .i64 Nq, .slice Aq Gq.length cq], .int .i64 x1, .int .i64 (1 + x2), .slice Ap pt.length cp] W (RetCo W ((x1, 1 + x2, G1), d1, la)) by
        rw [← o1]
        exact collect_own (own_below oq q (Nat.le_refl _)) (bq.below q (Nat.le_refl _)) ((slp.below bb (Nat.le_refl _)).below q zz) (Nat.le_trans zz q.size) (by have := hQ.1; omega) hQ.2 hpl))
      have HS := Lib.hid (fun W (q : Below wr.heap.size wr W) => (show Hid (W.rangeAt w2.heap.size 0 (#[.int .i64 Bq, .int .i64 Nq, .slice Aq Gq.length cq] : Array Value).toList) ∧ W.cell? ⟨b, o + k, none⟩ = some (.slice Ap pt.length cp) from
        ⟨Lib.hid (blk_range (kq.later q)), ((q.cell (p := ⟨b, o + k, none⟩) (Nat.lt_of_lt_of_le hb2 zz)).trans (bb.cell (p := ⟨b, o + k, none⟩) hb2)).trans kpt⟩))
      have hpl2 : pt.length ≤ 3000 ∧ pt0.length ≤ 3000 := ⟨hpl, hpl0⟩
      have HPq := Lib.hid (show PBox wr w2.heap.size w2.heap.size (Bq, Nq, Gq) from ⟨Aq, cq, vq, kq, oq, bq⟩)
      have b00 : Below wr.heap.size wr wr.drew := (Below.refl _ _).drew
      have Hbb := Lib.hid bb
      clear o1 o2 o3 hq hpt hpt0 hG1 hd1 hla hGs hGl kpt slp kpt0 slp0 hpl hpl0 hN kq oq bq hk hQ bb
      have Hpl := Lib.hid hpl2
      go_upto_region 11 with fail
      go_cut [13, 14, 15] (fun s13 s14 s15 wx => ∃ (g : Nat) (D : Option Addr) (cd : Nat), s13 = .pointer (some ⟨g, 0, none⟩) ∧ s14 = .slice D d1.length cd ∧ s15 = .bool la ∧ PBox wx wr.heap.size g (x1, 1 + x2, G1) ∧ wx.ownsRow wr.heap.size 5 1 (.slice D d1.length cd) d1.length (byteCells d1) ∧ Below wr.heap.size wr wx ∧ wr.heap.size ≤ g)
      case first => as_aux_lemma =>
        refine wp_region_noPanic ?_
        refine wp_region_held_drew (S := (fun w' : World => Hid (w'.rangeAt w2.heap.size 0 (#[.int .i64 Bq, .int .i64 Nq, .slice Aq Gq.length cq] : Array Value).toList) ∧ w'.cell? ⟨b, o + k, none⟩ = some (.slice Ap pt.length cp))) (by kernel_rfl) (by (try dsimp only); exact HS.out _ b00) (fun hHeld => ?_)
        refine wpAnyH_take (i := 0) (oi := { dst := some 41, op := Op.load 31 (Operand.tmp 11), type := 31, pos := "law.go:176", after := #[], guard := none }) (v := .agg #[.int .i64 Bq, .int .i64 Nq, .slice Aq Gq.length cq]) rfl (by kernel_rfl) (by kernel_rfl) (by kernel_rfl) (fun _ _ _ h => h) (Or.inl ⟨by rfl, fun w hSw => exec_ldp hSw.1 rfl rfl⟩) (by assumption) ?_
        try simp only [Act.put, List.setIfInBounds_toArray, List.set_cons_zero, List.set_cons_succ]
        refine wpAnyH_take (i := 1) (oi := { dst := some 42, op := Op.move (Operand.tmp 1), type := 50, pos := "law.go:176", after := #[], guard := none }) (v := ?_) rfl (by kernel_rfl) (by kernel_rfl) (by kernel_rfl) (fun _ _ _ h => h) (Or.inl ⟨by rfl, ?_⟩) (by assumption) ?_
        rotate_left
        · (intro w hSw; (try dsimp only at hSw); go_simp); (try with_reducible rfl)
        try simp only [Act.put, List.setIfInBounds_toArray, List.set_cons_zero, List.set_cons_succ]
        refine wpAnyH_take (i := 2) (oi := { dst := some 43, op := Op.convert 50 3 (Operand.tmp 42), type := 3, pos := "law.go:176", after := #[{ on := 1, ground := Ground.data }], guard := none }) (v := ?_) rfl (by kernel_rfl) (by kernel_rfl) (by kernel_rfl) (fun _ _ _ h => h) (Or.inl ⟨by rfl, ?_⟩) (by assumption) ?_
        rotate_left
        · (intro w hSw; (try dsimp only at hSw); go_simp); (try with_reducible rfl)
        try simp only [Act.put, List.setIfInBounds_toArray, List.set_cons_zero, List.set_cons_succ]
        refine wpAnyH_take (i := 3) (oi := { dst := some 44, op := Op.move (Operand.tmp 2), type := 50, pos := "law.go:176", after := #[], guard := none }) (v := ?_) rfl (by kernel_rfl) (by kernel_rfl) (by kernel_rfl) (fun _ _ _ h => h) (Or.inl ⟨by rfl, ?_⟩) (by assumption) ?_
        rotate_left
        · (intro w hSw; (try dsimp only at hSw); go_simp); (try with_reducible rfl)
        try simp only [Act.put, List.setIfInBounds_toArray, List.set_cons_zero, List.set_cons_succ]
        refine wpAnyH_take (i := 4) (oi := { dst := some 45, op := Op.convert 50 3 (Operand.tmp 44), type := 3, pos := "law.go:176", after := #[{ on := 3, ground := Ground.data }], guard := none }) (v := ?_) rfl (by kernel_rfl) (by kernel_rfl) (by kernel_rfl) (fun _ _ _ h => h) (Or.inl ⟨by rfl, ?_⟩) (by assumption) ?_
        rotate_left
        · (intro w hSw; (try dsimp only at hSw); go_simp); (try with_reducible rfl)
        try simp only [Act.put, List.setIfInBounds_toArray, List.set_cons_zero, List.set_cons_succ]
        refine wpAnyH_take (i := 5) (oi := { dst := some 46, op := Op.binOp BinOp.add 3 (Operand.const (Value.int IntKind.i64 1)) (Operand.tmp 45) 3, type := 3, pos := "law.go:176", after := #[{ on := 4, ground := Ground.data }], guard := none }) (v := ?_) rfl (by kernel_rfl) (by kernel_rfl) (by kernel_rfl) (fun _ _ _ h => h) (Or.inl ⟨by rfl, ?_⟩) (by assumption) ?_
        rotate_left
        · (intro w hSw; (try dsimp only at hSw); go_simp); (try with_reducible rfl)
        try simp only [Act.put, List.setIfInBounds_toArray, List.set_cons_zero, List.set_cons_succ]
        refine wpAnyH_take (i := 6) (oi := { dst := some 47, op := Op.move (Operand.tmp 10), type := 29, pos := "law.go:176", after := #[], guard := none }) (v := ?_) rfl (by kernel_rfl) (by kernel_rfl) (by kernel_rfl) (fun _ _ _ h => h) (Or.inl ⟨by rfl, ?_⟩) (by assumption) ?_
        rotate_left
        · (intro w hSw; (try dsimp only at hSw); go_simp); (try with_reducible rfl)
        try simp only [Act.put, List.setIfInBounds_toArray, List.set_cons_zero, List.set_cons_succ]
        refine wpAnyH_take (i := 7) (oi := { dst := some 48, op := Op.move (Operand.tmp 12), type := 3, pos := "law.go:176", after := #[], guard := none }) (v := ?_) rfl (by kernel_rfl) (by kernel_rfl) (by kernel_rfl) (fun _ _ _ h => h) (Or.inl ⟨by rfl, ?_⟩) (by assumption) ?_
        rotate_left
        · (intro w hSw; (try dsimp only at hSw); go_simp); (try with_reducible rfl)
        try simp only [Act.put, List.setIfInBounds_toArray, List.set_cons_zero, List.set_cons_succ]
        refine wpAnyH_take (i := 8) (oi := { dst := some 49, op := Op.move (Operand.tmp 3), type := 5, pos := "law.go:176", after := #[], guard := none }) (v := ?_) rfl (by kernel_rfl) (by kernel_rfl) (by kernel_rfl) (fun _ _ _ h => h) (Or.inl ⟨by rfl, ?_⟩) (by assumption) ?_
        rotate_left
        · (intro w hSw; (try dsimp only at hSw); go_simp); (try with_reducible rfl)
        try simp only [Act.put, List.setIfInBounds_toArray, List.set_cons_zero, List.set_cons_succ]
        refine wpAnyH_take (i := 9) (oi := { dst := some 50, op := Op.convert 5 3 (Operand.tmp 49), type := 3, pos := "law.go:176", after := #[{ on := 8, ground := Ground.data }], guard := none }) (v := ?_) rfl (by kernel_rfl) (by kernel_rfl) (by kernel_rfl) (fun _ _ _ h => h) (Or.inl ⟨by rfl, ?_⟩) (by assumption) ?_
        rotate_left
        · (intro w hSw; (try dsimp only at hSw); go_simp); (try with_reducible rfl)
        try simp only [Act.put, List.setIfInBounds_toArray, List.set_cons_zero, List.set_cons_succ]
        refine wpAnyH_take (i := 10) (oi := { dst := some 51, op := Op.binOp BinOp.add 3 (Operand.tmp 48) (Operand.tmp 50) 3, type := 3, pos := "law.go:176", after := #[{ on := 7, ground := Ground.data }, { on := 9, ground := Ground.data }], guard := none }) (v := ?_) rfl (by kernel_rfl) (by kernel_rfl) (by kernel_rfl) (fun _ _ _ h => h) (Or.inl ⟨by rfl, ?_⟩) (by assumption) ?_
        rotate_left
        · (intro w hSw; (try dsimp only at hSw); go_simp); (try with_reducible rfl)
        try simp only [Act.put, List.setIfInBounds_toArray, List.set_cons_zero, List.set_cons_succ]
        refine wpAnyH_take (i := 11) (oi := { dst := some 52, op := Op.move (Operand.tmp 10), type := 29, pos := "law.go:176", after := #[], guard := none }) (v := ?_) rfl (by kernel_rfl) (by kernel_rfl) (by kernel_rfl) (fun _ _ _ h => h) (Or.inl ⟨by rfl, ?_⟩) (by assumption) ?_
        rotate_left
        · (intro w hSw; (try dsimp only at hSw); go_simp); (try with_reducible rfl)
        try simp only [Act.put, List.setIfInBounds_toArray, List.set_cons_zero, List.set_cons_succ]
        refine wpAnyH_take (i := 12) (oi := { dst := some 53, op := Op.call { callee := Callee.builtin Builtin.len, args := #[Operand.tmp 52], argTypes := #[29] }, type := 3, pos := "law.go:176", after := #[{ on := 11, ground := Ground.data }], guard := none }) (v := ?_) rfl (by kernel_rfl) (by kernel_rfl) (by kernel_rfl) (fun _ _ _ h => h) (Or.inl ⟨by rfl, ?_⟩) (by assumption) ?_
        rotate_left
        · (intro w hSw; (try dsimp only at hSw); go_simp); (try with_reducible rfl)
        try simp only [Act.put, List.setIfInBounds_toArray, List.set_cons_zero, List.set_cons_succ]
        refine wpAnyH_take (i := 13) (oi := { dst := some 54, op := Op.binOp BinOp.rem 3 (Operand.tmp 51) (Operand.tmp 53) 3, type := 3, pos := "law.go:176", after := #[{ on := 10, ground := Ground.data }, { on := 12, ground := Ground.data }], guard := none }) (v := ?_) rfl (by kernel_rfl) (by kernel_rfl) (by kernel_rfl) (fun _ _ _ h => h) (Or.inl ⟨by rfl, ?_⟩) (by assumption) ?_
        rotate_left
        · (intro w hSw; (try dsimp only at hSw); go_simp); (try with_reducible rfl)
        try simp only [Act.put, List.setIfInBounds_toArray, List.set_cons_zero, List.set_cons_succ]
        refine wpAnyH_take (i := 14) (oi := { dst := some 55, op := Op.indexAddr 29 (Operand.tmp 47) (Operand.tmp 54), type := 0, pos := "law.go:176", after := #[{ on := 6, ground := Ground.data }, { on := 13, ground := Ground.data }], guard := none }) (v := ?_) rfl (by kernel_rfl) (by kernel_rfl) (by kernel_rfl) (fun _ _ _ h => h) (Or.inl ⟨by rfl, ?_⟩) (by assumption) ?_
        rotate_left
        · (intro w hSw; (try dsimp only at hSw); go_simp); (try with_reducible rfl)
        try simp only [Act.put, List.setIfInBounds_toArray, List.set_cons_zero, List.set_cons_succ]
        refine wpAnyH_take (i := 15) (oi := { dst := some 56, op := Op.load 23 (Operand.tmp 55), type := 23, pos := "law.go:176", after := #[{ on := 14, ground := Ground.data }], guard := none }) (v := ?_) rfl (by kernel_rfl) (by kernel_rfl) (by kernel_rfl) (fun _ _ _ h => h) (Or.inl ⟨by rfl, ?_⟩) (by assumption) ?_
        rotate_left
        · (intro w hSw; (try dsimp only at hSw); go_simp); (try with_reducible rfl)
        try simp only [Act.put, List.setIfInBounds_toArray, List.set_cons_zero, List.set_cons_succ]
        refine wpAnyH_ready (rs := [16, 21]) (by kernel_rfl) (by simp) ?_
        refine AllReadyH.cons (o := { dst := some 57, op := Op.call { callee := Callee.value (Operand.func 17), args := #[Operand.tmp 41, Operand.tmp 43, Operand.tmp 46, Operand.tmp 56], argTypes := #[31, 3, 3, 23] }, type := 42, pos := "law.go:176", after := #[{ on := 0, ground := Ground.data }, { on := 2, ground := Ground.data }, { on := 5, ground := Ground.data }, { on := 15, ground := Ground.data }], guard := none }) rfl (fun K hK => ?_) (AllReadyH.cons (o := { dst := some 13, op := Op.alloc 31, type := 0, pos := "law.go:176", after := #[], guard := none }) rfl (fun K hK => ?_) AllReadyH.nil)
        · go_simp
          refine (HC.out _ b00).mono ?_
          rintro e w5 ⟨A5, c5, vs5, D5, cd5, rfl, o5, bs5, od5, hb5⟩; (try dsimp only at o5); (try dsimp only at bs5); (try dsimp only at od5); (try dsimp only)
          have b05 : Below wr.heap.size wr w5 := b00.trans (hb5.mono (Nat.le_refl _))
          refine hK.out _ _ (by (try dsimp only); exact HS.out _ b05) (fun hHeld => ?_)
          clear hK K
          try simp only [Act.put, List.setIfInBounds_toArray, List.set_cons_zero, List.set_cons_succ]
          refine wpAnyH_take (i := 17) (oi := { dst := some 40, op := Op.move (Operand.tmp 57), type := 42, pos := "law.go:176", after := #[{ on := 16, ground := Ground.data }], guard := none }) (v := ?_) rfl (by kernel_rfl) (by kernel_rfl) (by kernel_rfl) (fun _ _ _ h => h) (Or.inl ⟨by rfl, ?_⟩) (by assumption) ?_
          rotate_left
          · (intro w hSw; (try dsimp only at hSw); go_simp); (try with_reducible rfl)
          try simp only [Act.put, List.setIfInBounds_toArray, List.set_cons_zero, List.set_cons_succ]
          refine wpAnyH_take (i := 18) (oi := { dst := some 58, op := Op.extract (Operand.tmp 40) 0, type := 31, pos := "law.go:176", after := #[{ on := 17, ground := Ground.data }], guard := none }) (v := ?_) rfl (by kernel_rfl) (by kernel_rfl) (by kernel_rfl) (fun _ _ _ h => h) (Or.inl ⟨by rfl, ?_⟩) (by assumption) ?_
          rotate_left
          · (intro w hSw; (try dsimp only at hSw); go_simp); (try with_reducible rfl)
          try simp only [Act.put, List.setIfInBounds_toArray, List.set_cons_zero, List.set_cons_succ]
          refine wpAnyH_take (i := 19) (oi := { dst := some 59, op := Op.extract (Operand.tmp 40) 1, type := 23, pos := "law.go:176", after := #[{ on := 17, ground := Ground.data }, { on := 22, ground := Ground.gcOnly Departure.lateStores }], guard := none }) (v := ?_) rfl (by kernel_rfl) (by kernel_rfl) (by kernel_rfl) (fun _ _ _ h => h) (Or.inl ⟨by rfl, ?_⟩) (by assumption) ?_
          rotate_left
          · (intro w hSw; (try dsimp only at hSw); go_simp); (try with_reducible rfl)
          try simp only [Act.put, List.setIfInBounds_toArray, List.set_cons_zero, List.set_cons_succ]
          refine wpAnyH_take (i := 20) (oi := { dst := some 60, op := Op.extract (Operand.tmp 40) 2, type := 4, pos := "law.go:176", after := #[{ on := 17, ground := Ground.data }, { on := 23, ground := Ground.gcOnly Departure.lateStores }], guard := none }) (v := ?_) rfl (by kernel_rfl) (by kernel_rfl) (by kernel_rfl) (fun _ _ _ h => h) (Or.inl ⟨by rfl, ?_⟩) (by assumption) ?_
          rotate_left
          · (intro w hSw; (try dsimp only at hSw); go_simp); (try with_reducible rfl)
          try simp only [Act.put, List.setIfInBounds_toArray, List.set_cons_zero, List.set_cons_succ]
          refine wpAnyH_ready (rs := [21]) (by kernel_rfl) (by simp) ?_
          refine AllReadyH.cons (o := { dst := some 13, op := Op.alloc 31, type := 0, pos := "law.go:176", after := #[], guard := none }) rfl (fun K hK => ?_) AllReadyH.nil
          go_simp
          have b6 := b05.alloc b05.size (.cells #[.int .i64 x1, .int .i64 (1 + x2), .slice A5 G1.length c5] 31)
          refine hK.out _ _ (by (try dsimp only); exact HS.out _ (b05.alloc b05.size _)) (fun hHeld => ?_)
          clear hK K
          try simp only [Act.put, List.setIfInBounds_toArray, List.set_cons_zero, List.set_cons_succ]
          refine wpAnyH_ready (rs := [22]) (by kernel_rfl) (by simp) ?_
          refine AllReadyH.cons (o := { dst := none, op := Op.store 31 (Operand.tmp 13) (Operand.tmp 58), type := 0, pos := "law.go:176", after := #[{ on := 21, ground := Ground.data }, { on := 18, ground := Ground.data }, { on := 16, ground := Ground.chain }, { on := 0, ground := Ground.phase }, { on := 1, ground := Ground.phase }, { on := 2, ground := Ground.phase }, { on := 3, ground := Ground.phase }, { on := 4, ground := Ground.phase }, { on := 5, ground := Ground.phase }, { on := 6, ground := Ground.phase }, { on := 7, ground := Ground.phase }, { on := 8, ground := Ground.phase }, { on := 9, ground := Ground.phase }, { on := 10, ground := Ground.phase }, { on := 11, ground := Ground.phase }, { on := 12, ground := Ground.phase }, { on := 13, ground := Ground.phase }, { on := 14, ground := Ground.phase }, { on := 15, ground := Ground.phase }, { on := 16, ground := Ground.phase }, { on := 17, ground := Ground.phase }, { on := 18, ground := Ground.phase }, { on := 19, ground := Ground.textOnly Departure.lateStores }, { on := 20, ground := Ground.textOnly Departure.lateStores }, { on := 21, ground := Ground.phase }], guard := none }) rfl (fun K hK => ?_) AllReadyH.nil
          go_simp
          skip
          refine hK.out _ _ (by (try dsimp only); exact HS.out _ b6) (fun hHeld => ?_)
          clear hK K
          try simp only [Act.put, List.setIfInBounds_toArray, List.set_cons_zero, List.set_cons_succ]
          refine wpAnyH_take (i := 23) (oi := { dst := some 14, op := Op.assign (Operand.tmp 59), type := 23, pos := "law.go:176", after := #[{ on := 19, ground := Ground.data }, { on := 22, ground := Ground.chain }, { on := 0, ground := Ground.phase }, { on := 1, ground := Ground.phase }, { on := 2, ground := Ground.phase }, { on := 3, ground := Ground.phase }, { on := 4, ground := Ground.phase }, { on := 5, ground := Ground.phase }, { on := 6, ground := Ground.phase }, { on := 7, ground := Ground.phase }, { on := 8, ground := Ground.phase }, { on := 9, ground := Ground.phase }, { on := 10, ground := Ground.phase }, { on := 11, ground := Ground.phase }, { on := 12, ground := Ground.phase }, { on := 13, ground := Ground.phase }, { on := 14, ground := Ground.phase }, { on := 15, ground := Ground.phase }, { on := 16, ground := Ground.phase }, { on := 17, ground := Ground.phase }, { on := 18, ground := Ground.phase }, { on := 19, ground := Ground.phase }, { on := 20, ground := Ground.textOnly Departure.lateStores }, { on := 21, ground := Ground.phase }, { on := 22, ground := Ground.phase }], guard := none }) (v := ?_) rfl (by kernel_rfl) (by kernel_rfl) (by kernel_rfl) (fun _ _ _ h => h) (Or.inl ⟨by rfl, ?_⟩) (by assumption) ?_
          rotate_left
          · (intro w hSw; (try dsimp only at hSw); go_simp); (try with_reducible rfl)
          try simp only [Act.put, List.setIfInBounds_toArray, List.set_cons_zero, List.set_cons_succ]
          refine wpAnyH_take (i := 24) (oi := { dst := some 15, op := Op.assign (Operand.tmp 60), type := 4, pos := "law.go:176", after := #[{ on := 20, ground := Ground.data }, { on := 23, ground := Ground.chain }, { on := 0, ground := Ground.phase }, { on := 1, ground := Ground.phase }, { on := 2, ground := Ground.phase }, { on := 3, ground := Ground.phase }, { on := 4, ground := Ground.phase }, { on := 5, ground := Ground.phase }, { on := 6, ground := Ground.phase }, { on := 7, ground := Ground.phase }, { on := 8, ground := Ground.phase }, { on := 9, ground := Ground.phase }, { on := 10, ground := Ground.phase }, { on := 11, ground := Ground.phase }, { on := 12, ground := Ground.phase }, { on := 13, ground := Ground.phase }, { on := 14, ground := Ground.phase }, { on := 15, ground := Ground.phase }, { on := 16, ground := Ground.phase }, { on := 17, ground := Ground.phase }, { on := 18, ground := Ground.phase }, { on := 19, ground := Ground.phase }, { on := 20, ground := Ground.phase }, { on := 21, ground := Ground.phase }, { on := 22, ground := Ground.phase }, { on := 23, ground := Ground.phase }], guard := none }) (v := ?_) rfl (by kernel_rfl) (by kernel_rfl) (by kernel_rfl) (fun _ _ _ h => h) (Or.inl ⟨by rfl, ?_⟩) (by assumption) ?_
          rotate_left
          · (intro w hSw; (try dsimp only at hSw); go_simp); (try with_reducible rfl)
          try simp only [Act.put, List.setIfInBounds_toArray, List.set_cons_zero, List.set_cons_succ]
          refine wpAnyH_done (by kernel_rfl) ?_ _
          refine NoPanic.normal ?_
          have ⟨PB, OD⟩ := RetCo.box2 (q := (x1, (1 + x2), G1)) (d := d1) (w := wr.drew) o5 bs5 od5
          have F := Lib.hid (show PBox (w5.alloc (.cells #[.int .i64 x1, .int .i64 (1 + x2), .slice A5 G1.length c5] 31)) wr.heap.size w5.heap.size (x1, (1 + x2), G1) ∧ (w5.alloc (.cells #[.int .i64 x1, .int .i64 (1 + x2), .slice A5 G1.length c5] 31)).ownsRow wr.heap.size 5 1 (.slice D5 d1.length cd5) d1.length (byteCells d1) ∧ Below wr.heap.size wr (w5.alloc (.cells #[.int .i64 x1, .int .i64 (1 + x2), .slice A5 G1.length c5] 31)) ∧ wr.heap.size ≤ w5.heap.size from ⟨PB, OD, b6, b05.size⟩)
          clear PB OD b6 hb5 o5 bs5 od5 HC
          go_wp2_with fail
          go_meet
          exact ⟨_, D5, cd5, rfl, rfl, rfl, F.out⟩
        · have b0a := b00.alloc (Nat.le_refl _) (.cells #[.int .i64 0, .int .i64 0, .slice none 0 0] 31)
          go_simp
          refine hK.out _ _ (by (try dsimp only); exact HS.out _ b0a) (fun hHeld => ?_)
          clear hK K
          try simp only [Act.put, List.setIfInBounds_toArray, List.set_cons_zero, List.set_cons_succ]
          have kz : Blk (wr.drew.alloc (.cells #[.int .i64 0, .int .i64 0, .slice none 0 0] 31)) wr.heap.size 31 #[.int .i64 0, .int .i64 0, .slice none 0 0] := Blk.new wr.drew 31 #[.int .i64 0, .int .i64 0, .slice none 0 0] rfl
          have ha : wr.heap.size + 1 ≤ (wr.drew.alloc (.cells #[.int .i64 0, .int .i64 0, .slice none 0 0] 31)).heap.size := by rw [World.size_alloc]; exact Nat.le_refl _
          refine wpAnyH_ready (rs := [16]) (by kernel_rfl) (by simp) ?_
          refine AllReadyH.cons (o := { dst := some 57, op := Op.call { callee := Callee.value (Operand.func 17), args := #[Operand.tmp 41, Operand.tmp 43, Operand.tmp 46, Operand.tmp 56], argTypes := #[31, 3, 3, 23] }, type := 42, pos := "law.go:176", after := #[{ on := 0, ground := Ground.data }, { on := 2, ground := Ground.data }, { on := 5, ground := Ground.data }, { on := 15, ground := Ground.data }], guard := none }) rfl (fun K hK => ?_) AllReadyH.nil
          go_simp
          refine (HC.out _ b0a).mono ?_; rintro e w5 ⟨A5, c5, vs5, D5, cd5, rfl, o5, bs5, od5, hb5⟩; (try dsimp only at o5); (try dsimp only at bs5); (try dsimp only at od5); (try dsimp only); have b05 : Below wr.heap.size wr w5 := b0a.trans (hb5.mono (by omega)); have kz5 := kz.later hb5; obtain ⟨w6, hst6, k6, g6, z6⟩ := prt_st kz5 rfl #[.int .i64 x1, .int .i64 (1 + x2), .slice A5 G1.length c5] rfl rfl; have b6 := b05.grown g6 b05.size (fun k e => by cases e; exact Nat.le_refl _)
          refine hK.out _ _ (by (try dsimp only); exact HS.out _ b05) (fun hHeld => ?_)
          clear hK K
          try simp only [Act.put, List.setIfInBounds_toArray, List.set_cons_zero, List.set_cons_succ]
          refine wpAnyH_take (i := 17) (oi := { dst := some 40, op := Op.move (Operand.tmp 57), type := 42, pos := "law.go:176", after := #[{ on := 16, ground := Ground.data }], guard := none }) (v := ?_) rfl (by kernel_rfl) (by kernel_rfl) (by kernel_rfl) (fun _ _ _ h => h) (Or.inl ⟨by rfl, ?_⟩) (by assumption) ?_
          rotate_left
          · (intro w hSw; (try dsimp only at hSw); go_simp); (try with_reducible rfl)
          try simp only [Act.put, List.setIfInBounds_toArray, List.set_cons_zero, List.set_cons_succ]
          refine wpAnyH_take (i := 18) (oi := { dst := some 58, op := Op.extract (Operand.tmp 40) 0, type := 31, pos := "law.go:176", after := #[{ on := 17, ground := Ground.data }], guard := none }) (v := ?_) rfl (by kernel_rfl) (by kernel_rfl) (by kernel_rfl) (fun _ _ _ h => h) (Or.inl ⟨by rfl, ?_⟩) (by assumption) ?_
          rotate_left
          · (intro w hSw; (try dsimp only at hSw); go_simp); (try with_reducible rfl)
          try simp only [Act.put, List.setIfInBounds_toArray, List.set_cons_zero, List.set_cons_succ]
          refine wpAnyH_take (i := 19) (oi := { dst := some 59, op := Op.extract (Operand.tmp 40) 1, type := 23, pos := "law.go:176", after := #[{ on := 17, ground := Ground.data }, { on := 22, ground := Ground.gcOnly Departure.lateStores }], guard := none }) (v := ?_) rfl (by kernel_rfl) (by kernel_rfl) (by kernel_rfl) (fun _ _ _ h => h) (Or.inl ⟨by rfl, ?_⟩) (by assumption) ?_
          rotate_left
          · (intro w hSw; (try dsimp only at hSw); go_simp); (try with_reducible rfl)
          try simp only [Act.put, List.setIfInBounds_toArray, List.set_cons_zero, List.set_cons_succ]
          refine wpAnyH_take (i := 20) (oi := { dst := some 60, op := Op.extract (Operand.tmp 40) 2, type := 4, pos := "law.go:176", after := #[{ on := 17, ground := Ground.data }, { on := 23, ground := Ground.gcOnly Departure.lateStores }], guard := none }) (v := ?_) rfl (by kernel_rfl) (by kernel_rfl) (by kernel_rfl) (fun _ _ _ h => h) (Or.inl ⟨by rfl, ?_⟩) (by assumption) ?_
          rotate_left
          · (intro w hSw; (try dsimp only at hSw); go_simp); (try with_reducible rfl)
          try simp only [Act.put, List.setIfInBounds_toArray, List.set_cons_zero, List.set_cons_succ]
          refine wpAnyH_ready (rs := [22]) (by kernel_rfl) (by simp) ?_
          refine AllReadyH.cons (o := { dst := none, op := Op.store 31 (Operand.tmp 13) (Operand.tmp 58), type := 0, pos := "law.go:176", after := #[{ on := 21, ground := Ground.data }, { on := 18, ground := Ground.data }, { on := 16, ground := Ground.chain }, { on := 0, ground := Ground.phase }, { on := 1, ground := Ground.phase }, { on := 2, ground := Ground.phase }, { on := 3, ground := Ground.phase }, { on := 4, ground := Ground.phase }, { on := 5, ground := Ground.phase }, { on := 6, ground := Ground.phase }, { on := 7, ground := Ground.phase }, { on := 8, ground := Ground.phase }, { on := 9, ground := Ground.phase }, { on := 10, ground := Ground.phase }, { on := 11, ground := Ground.phase }, { on := 12, ground := Ground.phase }, { on := 13, ground := Ground.phase }, { on := 14, ground := Ground.phase }, { on := 15, ground := Ground.phase }, { on := 16, ground := Ground.phase }, { on := 17, ground := Ground.phase }, { on := 18, ground := Ground.phase }, { on := 19, ground := Ground.textOnly Departure.lateStores }, { on := 20, ground := Ground.textOnly Departure.lateStores }, { on := 21, ground := Ground.phase }], guard := none }) rfl (fun K hK => ?_) AllReadyH.nil
          skip
          refine step_stp hst6 ⟨rfl, rfl⟩ ?_
          refine hK.out _ _ (by (try dsimp only); exact HS.out _ b6) (fun hHeld => ?_)
          clear hK K
          try simp only [Act.put, List.setIfInBounds_toArray, List.set_cons_zero, List.set_cons_succ]
          refine wpAnyH_take (i := 23) (oi := { dst := some 14, op := Op.assign (Operand.tmp 59), type := 23, pos := "law.go:176", after := #[{ on := 19, ground := Ground.data }, { on := 22, ground := Ground.chain }, { on := 0, ground := Ground.phase }, { on := 1, ground := Ground.phase }, { on := 2, ground := Ground.phase }, { on := 3, ground := Ground.phase }, { on := 4, ground := Ground.phase }, { on := 5, ground := Ground.phase }, { on := 6, ground := Ground.phase }, { on := 7, ground := Ground.phase }, { on := 8, ground := Ground.phase }, { on := 9, ground := Ground.phase }, { on := 10, ground := Ground.phase }, { on := 11, ground := Ground.phase }, { on := 12, ground := Ground.phase }, { on := 13, ground := Ground.phase }, { on := 14, ground := Ground.phase }, { on := 15, ground := Ground.phase }, { on := 16, ground := Ground.phase }, { on := 17, ground := Ground.phase }, { on := 18, ground := Ground.phase }, { on := 19, ground := Ground.phase }, { on := 20, ground := Ground.textOnly Departure.lateStores }, { on := 21, ground := Ground.phase }, { on := 22, ground := Ground.phase }], guard := none }) (v := ?_) rfl (by kernel_rfl) (by kernel_rfl) (by kernel_rfl) (fun _ _ _ h => h) (Or.inl ⟨by rfl, ?_⟩) (by assumption) ?_
          rotate_left
          · (intro w hSw; (try dsimp only at hSw); go_simp); (try with_reducible rfl)
          try simp only [Act.put, List.setIfInBounds_toArray, List.set_cons_zero, List.set_cons_succ]
          refine wpAnyH_take (i := 24) (oi := { dst := some 15, op := Op.assign (Operand.tmp 60), type := 4, pos := "law.go:176", after := #[{ on := 20, ground := Ground.data }, { on := 23, ground := Ground.chain }, { on := 0, ground := Ground.phase }, { on := 1, ground := Ground.phase }, { on := 2, ground := Ground.phase }, { on := 3, ground := Ground.phase }, { on := 4, ground := Ground.phase }, { on := 5, ground := Ground.phase }, { on := 6, ground := Ground.phase }, { on := 7, ground := Ground.phase }, { on := 8, ground := Ground.phase }, { on := 9, ground := Ground.phase }, { on := 10, ground := Ground.phase }, { on := 11, ground := Ground.phase }, { on := 12, ground := Ground.phase }, { on := 13, ground := Ground.phase }, { on := 14, ground := Ground.phase }, { on := 15, ground := Ground.phase }, { on := 16, ground := Ground.phase }, { on := 17, ground := Ground.phase }, { on := 18, ground := Ground.phase }, { on := 19, ground := Ground.phase }, { on := 20, ground := Ground.phase }, { on := 21, ground := Ground.phase }, { on := 22, ground := Ground.phase }, { on := 23, ground := Ground.phase }], guard := none }) (v := ?_) rfl (by kernel_rfl) (by kernel_rfl) (by kernel_rfl) (fun _ _ _ h => h) (Or.inl ⟨by rfl, ?_⟩) (by assumption) ?_
          rotate_left
          · (intro w hSw; (try dsimp only at hSw); go_simp); (try with_reducible rfl)
          try simp only [Act.put, List.setIfInBounds_toArray, List.set_cons_zero, List.set_cons_succ]
          refine wpAnyH_done (by kernel_rfl) ?_ _
          refine NoPanic.normal ?_
          have ⟨PB, OD⟩ := RetCo.box (q := (x1, (1 + x2), G1)) (d := d1) o5 bs5 od5 kz5 k6 g6
          have F := Lib.hid (show PBox w6 wr.heap.size wr.heap.size (x1, (1 + x2), G1) ∧ w6.ownsRow wr.heap.size 5 1 (.slice D5 d1.length cd5) d1.length (byteCells d1) ∧ Below wr.heap.size wr w6 ∧ wr.heap.size ≤ wr.heap.size from ⟨PB.more (by omega), own_more OD (by omega), b6, Nat.le_refl _⟩)
          clear PB OD g6 b6 k6 kz5 kz hb5 o5 bs5 od5 HC hst6
          go_wp2_with fail
          go_meet
          exact ⟨_, D5, cd5, rfl, rfl, rfl, F.out⟩
      case rest => as_aux_lemma =>
        obtain ⟨g1, D1, cd1, rfl, rfl, rfl, PB1, OD1, b1, hg1⟩ := hcut
        rename World => w4
        have z4 := b1.size
        have zz4 := Nat.le_trans zz z4
        have bb4 := Hbb.out.trans (b1.mono zz)
        have PB0 := HPq.out.below b1 (Nat.le_refl _)
        obtain ⟨A6, c6, v6, k6, o6, q6⟩ := PB1
        have HC := Lib.hid (fun W (q : Below w4.heap.size w4 W) => (show Calls Try.prog 17 #[.agg #[.int .i64 x1, .int .i64 (1 + x2), .slice A6 G1.length c6], .int .i64 x1, .int .i64 (1 + x2), .slice Ap pt.length cp] W (RetCo W ((x1, 1 + x2, G1), d1, la)) by
          rw [← HO2.out]
          exact collect_own (own_below o6 q (Nat.le_refl _)) (q6.below q (Nat.le_refl _)) ((HSP.out.1.2.below bb4 (Nat.le_refl _)).below q zz4) (Nat.le_trans zz4 q.size) (by rw [HGl.out]; omega) HGs.out Hpl.out.1))
        have HS := Lib.hid (fun W (q : Below w4.heap.size w4 W) => (show Hid (W.rangeAt g1 0 (#[.int .i64 x1, .int .i64 (1 + x2), .slice A6 G1.length c6] : Array Value).toList) ∧ W.cell? ⟨b, o + k, none⟩ = some (.slice Ap pt.length cp) from
          ⟨Lib.hid (blk_range (k6.later q)), ((q.cell (p := ⟨b, o + k, none⟩) (Nat.lt_of_lt_of_le hb2 zz4)).trans (bb4.cell (p := ⟨b, o + k, none⟩) hb2)).trans HSP.out.1.1⟩))
        have PB1 : Hid (PBox w4 wr.heap.size g1 (x1, 1 + x2, G1)) := Lib.hid ⟨A6, c6, v6, k6, o6, q6⟩
        have HPB0 := Lib.hid PB0
        have HOD1 := Lib.hid OD1
        have Hbb4 := Lib.hid bb4
        have b00 : Below w4.heap.size w4 w4.drew := (Below.refl _ _).drew
        clear k6 o6 q6 PB0 OD1 bb4 b1 Hbb HPq
        go_upto_region 12 with fail
        go_cut [16, 17, 18] (fun s13 s14 s15 wx => ∃ (g : Nat) (D : Option Addr) (cd : Nat), s13 = .pointer (some ⟨g, 0, none⟩) ∧ s14 = .slice D d1.length cd ∧ s15 = .bool la ∧ PBox wx w4.heap.size g (x1, 1 + x2, G1) ∧ wx.ownsRow w4.heap.size 5 1 (.slice D d1.length cd) d1.length (byteCells d1) ∧ Below w4.heap.size w4 wx ∧ w4.heap.size ≤ g)
        case first => as_aux_lemma =>
          refine wp_region_noPanic ?_
          refine wp_region_held_drew (S := (fun w' : World => Hid (w'.rangeAt g1 0 (#[.int .i64 x1, .int .i64 (1 + x2), .slice A6 G1.length c6] : Array Value).toList) ∧ w'.cell? ⟨b, o + k, none⟩ = some (.slice Ap pt.length cp))) (by kernel_rfl) (by (try dsimp only); exact HS.out _ b00) (fun hHeld => ?_)
          refine wpAnyH_take (i := 0) (oi := { dst := some 62, op := Op.load 31 (Operand.tmp 13), type := 31, pos := "law.go:177", after := #[], guard := none }) (v := .agg #[.int .i64 x1, .int .i64 (1 + x2), .slice A6 G1.length c6]) rfl (by kernel_rfl) (by kernel_rfl) (by kernel_rfl) (fun _ _ _ h => h) (Or.inl ⟨by rfl, fun w hSw => exec_ldp hSw.1 rfl rfl⟩) (by assumption) ?_
          try simp only [Act.put, List.setIfInBounds_toArray, List.set_cons_zero, List.set_cons_succ]
          refine wpAnyH_take (i := 1) (oi := { dst := some 63, op := Op.move (Operand.tmp 1), type := 50, pos := "law.go:177", after := #[], guard := none }) (v := ?_) rfl (by kernel_rfl) (by kernel_rfl) (by kernel_rfl) (fun _ _ _ h => h) (Or.inl ⟨by rfl, ?_⟩) (by assumption) ?_
          rotate_left
          · (intro w hSw; (try dsimp only at hSw); go_simp); (try with_reducible rfl)
          try simp only [Act.put, List.setIfInBounds_toArray, List.set_cons_zero, List.set_cons_succ]
          refine wpAnyH_take (i := 2) (oi := { dst := some 64, op := Op.convert 50 3 (Operand.tmp 63), type := 3, pos := "law.go:177", after := #[{ on := 1, ground := Ground.data }], guard := none }) (v := ?_) rfl (by kernel_rfl) (by kernel_rfl) (by kernel_rfl) (fun _ _ _ h => h) (Or.inl ⟨by rfl, ?_⟩) (by assumption) ?_
          rotate_left
          · (intro w hSw; (try dsimp only at hSw); go_simp); (try with_reducible rfl)
          try simp only [Act.put, List.setIfInBounds_toArray, List.set_cons_zero, List.set_cons_succ]
          refine wpAnyH_take (i := 3) (oi := { dst := some 65, op := Op.move (Operand.tmp 2), type := 50, pos := "law.go:177", after := #[], guard := none }) (v := ?_) rfl (by kernel_rfl) (by kernel_rfl) (by kernel_rfl) (fun _ _ _ h => h) (Or.inl ⟨by rfl, ?_⟩) (by assumption) ?_
          rotate_left
          · (intro w hSw; (try dsimp only at hSw); go_simp); (try with_reducible rfl)
          try simp only [Act.put, List.setIfInBounds_toArray, List.set_cons_zero, List.set_cons_succ]
          refine wpAnyH_take (i := 4) (oi := { dst := some 66, op := Op.convert 50 3 (Operand.tmp 65), type := 3, pos := "law.go:177", after := #[{ on := 3, ground := Ground.data }], guard := none }) (v := ?_) rfl (by kernel_rfl) (by kernel_rfl) (by kernel_rfl) (fun _ _ _ h => h) (Or.inl ⟨by rfl, ?_⟩) (by assumption) ?_
          rotate_left
          · (intro w hSw; (try dsimp only at hSw); go_simp); (try with_reducible rfl)
          try simp only [Act.put, List.setIfInBounds_toArray, List.set_cons_zero, List.set_cons_succ]
          refine wpAnyH_take (i := 5) (oi := { dst := some 67, op := Op.binOp BinOp.add 3 (Operand.const (Value.int IntKind.i64 1)) (Operand.tmp 66) 3, type := 3, pos := "law.go:177", after := #[{ on := 4, ground := Ground.data }], guard := none }) (v := ?_) rfl (by kernel_rfl) (by kernel_rfl) (by kernel_rfl) (fun _ _ _ h => h) (Or.inl ⟨by rfl, ?_⟩) (by assumption) ?_
          rotate_left
          · (intro w hSw; (try dsimp only at hSw); go_simp); (try with_reducible rfl)
          try simp only [Act.put, List.setIfInBounds_toArray, List.set_cons_zero, List.set_cons_succ]
          refine wpAnyH_take (i := 6) (oi := { dst := some 68, op := Op.move (Operand.tmp 10), type := 29, pos := "law.go:177", after := #[], guard := none }) (v := ?_) rfl (by kernel_rfl) (by kernel_rfl) (by kernel_rfl) (fun _ _ _ h => h) (Or.inl ⟨by rfl, ?_⟩) (by assumption) ?_
          rotate_left
          · (intro w hSw; (try dsimp only at hSw); go_simp); (try with_reducible rfl)
          try simp only [Act.put, List.setIfInBounds_toArray, List.set_cons_zero, List.set_cons_succ]
          refine wpAnyH_take (i := 7) (oi := { dst := some 69, op := Op.move (Operand.tmp 12), type := 3, pos := "law.go:177", after := #[], guard := none }) (v := ?_) rfl (by kernel_rfl) (by kernel_rfl) (by kernel_rfl) (fun _ _ _ h => h) (Or.inl ⟨by rfl, ?_⟩) (by assumption) ?_
          rotate_left
          · (intro w hSw; (try dsimp only at hSw); go_simp); (try with_reducible rfl)
          try simp only [Act.put, List.setIfInBounds_toArray, List.set_cons_zero, List.set_cons_succ]
          refine wpAnyH_take (i := 8) (oi := { dst := some 70, op := Op.move (Operand.tmp 3), type := 5, pos := "law.go:177", after := #[], guard := none }) (v := ?_) rfl (by kernel_rfl) (by kernel_rfl) (by kernel_rfl) (fun _ _ _ h => h) (Or.inl ⟨by rfl, ?_⟩) (by assumption) ?_
          rotate_left
          · (intro w hSw; (try dsimp only at hSw); go_simp); (try with_reducible rfl)
          try simp only [Act.put, List.setIfInBounds_toArray, List.set_cons_zero, List.set_cons_succ]
          refine wpAnyH_take (i := 9) (oi := { dst := some 71, op := Op.convert 5 3 (Operand.tmp 70), type := 3, pos := "law.go:177", after := #[{ on := 8, ground := Ground.data }], guard := none }) (v := ?_) rfl (by kernel_rfl) (by kernel_rfl) (by kernel_rfl) (fun _ _ _ h => h) (Or.inl ⟨by rfl, ?_⟩) (by assumption) ?_
          rotate_left
          · (intro w hSw; (try dsimp only at hSw); go_simp); (try with_reducible rfl)
          try simp only [Act.put, List.setIfInBounds_toArray, List.set_cons_zero, List.set_cons_succ]
          refine wpAnyH_take (i := 10) (oi := { dst := some 72, op := Op.binOp BinOp.add 3 (Operand.tmp 69) (Operand.tmp 71) 3, type := 3, pos := "law.go:177", after := #[{ on := 7, ground := Ground.data }, { on := 9, ground := Ground.data }], guard := none }) (v := ?_) rfl (by kernel_rfl) (by kernel_rfl) (by kernel_rfl) (fun _ _ _ h => h) (Or.inl ⟨by rfl, ?_⟩) (by assumption) ?_
          rotate_left
          · (intro w hSw; (try dsimp only at hSw); go_simp); (try with_reducible rfl)
          try simp only [Act.put, List.setIfInBounds_toArray, List.set_cons_zero, List.set_cons_succ]
          refine wpAnyH_take (i := 11) (oi := { dst := some 73, op := Op.move (Operand.tmp 10), type := 29, pos := "law.go:177", after := #[], guard := none }) (v := ?_) rfl (by kernel_rfl) (by kernel_rfl) (by kernel_rfl) (fun _ _ _ h => h) (Or.inl ⟨by rfl, ?_⟩) (by assumption) ?_
          rotate_left
          · (intro w hSw; (try dsimp only at hSw); go_simp); (try with_reducible rfl)
          try simp only [Act.put, List.setIfInBounds_toArray, List.set_cons_zero, List.set_cons_succ]
          refine wpAnyH_take (i := 12) (oi := { dst := some 74, op := Op.call { callee := Callee.builtin Builtin.len, args := #[Operand.tmp 73], argTypes := #[29] }, type := 3, pos := "law.go:177", after := #[{ on := 11, ground := Ground.data }], guard := none }) (v := ?_) rfl (by kernel_rfl) (by kernel_rfl) (by kernel_rfl) (fun _ _ _ h => h) (Or.inl ⟨by rfl, ?_⟩) (by assumption) ?_
          rotate_left
          · (intro w hSw; (try dsimp only at hSw); go_simp); (try with_reducible rfl)
          try simp only [Act.put, List.setIfInBounds_toArray, List.set_cons_zero, List.set_cons_succ]
          refine wpAnyH_take (i := 13) (oi := { dst := some 75, op := Op.binOp BinOp.rem 3 (Operand.tmp 72) (Operand.tmp 74) 3, type := 3, pos := "law.go:177", after := #[{ on := 10, ground := Ground.data }, { on := 12, ground := Ground.data }], guard := none }) (v := ?_) rfl (by kernel_rfl) (by kernel_rfl) (by kernel_rfl) (fun _ _ _ h => h) (Or.inl ⟨by rfl, ?_⟩) (by assumption) ?_
          rotate_left
          · (intro w hSw; (try dsimp only at hSw); go_simp); (try with_reducible rfl)
          try simp only [Act.put, List.setIfInBounds_toArray, List.set_cons_zero, List.set_cons_succ]
          refine wpAnyH_take (i := 14) (oi := { dst := some 76, op := Op.indexAddr 29 (Operand.tmp 68) (Operand.tmp 75), type := 0, pos := "law.go:177", after := #[{ on := 6, ground := Ground.data }, { on := 13, ground := Ground.data }], guard := none }) (v := ?_) rfl (by kernel_rfl) (by kernel_rfl) (by kernel_rfl) (fun _ _ _ h => h) (Or.inl ⟨by rfl, ?_⟩) (by assumption) ?_
          rotate_left
          · (intro w hSw; (try dsimp only at hSw); go_simp); (try with_reducible rfl)
          try simp only [Act.put, List.setIfInBounds_toArray, List.set_cons_zero, List.set_cons_succ]
          refine wpAnyH_take (i := 15) (oi := { dst := some 77, op := Op.load 23 (Operand.tmp 76), type := 23, pos := "law.go:177", after := #[{ on := 14, ground := Ground.data }], guard := none }) (v := ?_) rfl (by kernel_rfl) (by kernel_rfl) (by kernel_rfl) (fun _ _ _ h => h) (Or.inl ⟨by rfl, ?_⟩) (by assumption) ?_
          rotate_left
          · (intro w hSw; (try dsimp only at hSw); go_simp); (try with_reducible rfl)
          try simp only [Act.put, List.setIfInBounds_toArray, List.set_cons_zero, List.set_cons_succ]
          refine wpAnyH_ready (rs := [16, 21]) (by kernel_rfl) (by simp) ?_
          refine AllReadyH.cons (o := { dst := some 78, op := Op.call { callee := Callee.value (Operand.func 17), args := #[Operand.tmp 62, Operand.tmp 64, Operand.tmp 67, Operand.tmp 77], argTypes := #[31, 3, 3, 23] }, type := 42, pos := "law.go:177", after := #[{ on := 0, ground := Ground.data }, { on := 2, ground := Ground.data }, { on := 5, ground := Ground.data }, { on := 15, ground := Ground.data }], guard := none }) rfl (fun K hK => ?_) (AllReadyH.cons (o := { dst := some 16, op := Op.alloc 31, type := 0, pos := "law.go:177", after := #[], guard := none }) rfl (fun K hK => ?_) AllReadyH.nil)
          · go_simp
            refine (HC.out _ b00).mono ?_
            rintro e w5 ⟨A5, c5, vs5, D5, cd5, rfl, o5, bs5, od5, hb5⟩; (try dsimp only at o5); (try dsimp only at bs5); (try dsimp only at od5); (try dsimp only)
            have b05 : Below w4.heap.size w4 w5 := b00.trans (hb5.mono (Nat.le_refl _))
            refine hK.out _ _ (by (try dsimp only); exact HS.out _ b05) (fun hHeld => ?_)
            clear hK K
            try simp only [Act.put, List.setIfInBounds_toArray, List.set_cons_zero, List.set_cons_succ]
            refine wpAnyH_take (i := 17) (oi := { dst := some 61, op := Op.move (Operand.tmp 78), type := 42, pos := "law.go:177", after := #[{ on := 16, ground := Ground.data }], guard := none }) (v := ?_) rfl (by kernel_rfl) (by kernel_rfl) (by kernel_rfl) (fun _ _ _ h => h) (Or.inl ⟨by rfl, ?_⟩) (by assumption) ?_
            rotate_left
            · (intro w hSw; (try dsimp only at hSw); go_simp); (try with_reducible rfl)
            try simp only [Act.put, List.setIfInBounds_toArray, List.set_cons_zero, List.set_cons_succ]
            refine wpAnyH_take (i := 18) (oi := { dst := some 79, op := Op.extract (Operand.tmp 61) 0, type := 31, pos := "law.go:177", after := #[{ on := 17, ground := Ground.data }], guard := none }) (v := ?_) rfl (by kernel_rfl) (by kernel_rfl) (by kernel_rfl) (fun _ _ _ h => h) (Or.inl ⟨by rfl, ?_⟩) (by assumption) ?_
            rotate_left
            · (intro w hSw; (try dsimp only at hSw); go_simp); (try with_reducible rfl)
            try simp only [Act.put, List.setIfInBounds_toArray, List.set_cons_zero, List.set_cons_succ]
            refine wpAnyH_take (i := 19) (oi := { dst := some 80, op := Op.extract (Operand.tmp 61) 1, type := 23, pos := "law.go:177", after := #[{ on := 17, ground := Ground.data }, { on := 22, ground := Ground.gcOnly Departure.lateStores }], guard := none }) (v := ?_) rfl (by kernel_rfl) (by kernel_rfl) (by kernel_rfl) (fun _ _ _ h => h) (Or.inl ⟨by rfl, ?_⟩) (by assumption) ?_
            rotate_left
            · (intro w hSw; (try dsimp only at hSw); go_simp); (try with_reducible rfl)
            try simp only [Act.put, List.setIfInBounds_toArray, List.set_cons_zero, List.set_cons_succ]
            refine wpAnyH_take (i := 20) (oi := { dst := some 81, op := Op.extract (Operand.tmp 61) 2, type := 4, pos := "law.go:177", after := #[{ on := 17, ground := Ground.data }, { on := 23, ground := Ground.gcOnly Departure.lateStores }], guard := none }) (v := ?_) rfl (by kernel_rfl) (by kernel_rfl) (by kernel_rfl) (fun _ _ _ h => h) (Or.inl ⟨by rfl, ?_⟩) (by assumption) ?_
            rotate_left
            · (intro w hSw; (try dsimp only at hSw); go_simp); (try with_reducible rfl)
            try simp only [Act.put, List.setIfInBounds_toArray, List.set_cons_zero, List.set_cons_succ]
            refine wpAnyH_ready (rs := [21]) (by kernel_rfl) (by simp) ?_
            refine AllReadyH.cons (o := { dst := some 16, op := Op.alloc 31, type := 0, pos := "law.go:177", after := #[], guard := none }) rfl (fun K hK => ?_) AllReadyH.nil
            go_simp
            have b6 := b05.alloc b05.size (.cells #[.int .i64 x1, .int .i64 (1 + x2), .slice A5 G1.length c5] 31)
            refine hK.out _ _ (by (try dsimp only); exact HS.out _ (b05.alloc b05.size _)) (fun hHeld => ?_)
            clear hK K
            try simp only [Act.put, List.setIfInBounds_toArray, List.set_cons_zero, List.set_cons_succ]
            refine wpAnyH_ready (rs := [22]) (by kernel_rfl) (by simp) ?_
            refine AllReadyH.cons (o := { dst := none, op := Op.store 31 (Operand.tmp 16) (Operand.tmp 79), type := 0, pos := "law.go:177", after := #[{ on := 21, ground := Ground.data }, { on := 18, ground := Ground.data }, { on := 16, ground := Ground.chain }, { on := 0, ground := Ground.phase }, { on := 1, ground := Ground.phase }, { on := 2, ground := Ground.phase }, { on := 3, ground := Ground.phase }, { on := 4, ground := Ground.phase }, { on := 5, ground := Ground.phase }, { on := 6, ground := Ground.phase }, { on := 7, ground := Ground.phase }, { on := 8, ground := Ground.phase }, { on := 9, ground := Ground.phase }, { on := 10, ground := Ground.phase }, { on := 11, ground := Ground.phase }, { on := 12, ground := Ground.phase }, { on := 13, ground := Ground.phase }, { on := 14, ground := Ground.phase }, { on := 15, ground := Ground.phase }, { on := 16, ground := Ground.phase }, { on := 17, ground := Ground.phase }, { on := 18, ground := Ground.phase }, { on := 19, ground := Ground.textOnly Departure.lateStores }, { on := 20, ground := Ground.textOnly Departure.lateStores }, { on := 21, ground := Ground.phase }], guard := none }) rfl (fun K hK => ?_) AllReadyH.nil
            go_simp
            skip
            refine hK.out _ _ (by (try dsimp only); exact HS.out _ b6) (fun hHeld => ?_)
            clear hK K
            try simp only [Act.put, List.setIfInBounds_toArray, List.set_cons_zero, List.set_cons_succ]
            refine wpAnyH_take (i := 23) (oi := { dst := some 17, op := Op.assign (Operand.tmp 80), type := 23, pos := "law.go:177", after := #[{ on := 19, ground := Ground.data }, { on := 22, ground := Ground.chain }, { on := 0, ground := Ground.phase }, { on := 1, ground := Ground.phase }, { on := 2, ground := Ground.phase }, { on := 3, ground := Ground.phase }, { on := 4, ground := Ground.phase }, { on := 5, ground := Ground.phase }, { on := 6, ground := Ground.phase }, { on := 7, ground := Ground.phase }, { on := 8, ground := Ground.phase }, { on := 9, ground := Ground.phase }, { on := 10, ground := Ground.phase }, { on := 11, ground := Ground.phase }, { on := 12, ground := Ground.phase }, { on := 13, ground := Ground.phase }, { on := 14, ground := Ground.phase }, { on := 15, ground := Ground.phase }, { on := 16, ground := Ground.phase }, { on := 17, ground := Ground.phase }, { on := 18, ground := Ground.phase }, { on := 19, ground := Ground.phase }, { on := 20, ground := Ground.textOnly Departure.lateStores }, { on := 21, ground := Ground.phase }, { on := 22, ground := Ground.phase }], guard := none }) (v := ?_) rfl (by kernel_rfl) (by kernel_rfl) (by kernel_rfl) (fun _ _ _ h => h) (Or.inl ⟨by rfl, ?_⟩) (by assumption) ?_
            rotate_left
            · (intro w hSw; (try dsimp only at hSw); go_simp); (try with_reducible rfl)
            try simp only [Act.put, List.setIfInBounds_toArray, List.set_cons_zero, List.set_cons_succ]
            refine wpAnyH_take (i := 24) (oi := { dst := some 18, op := Op.assign (Operand.tmp 81), type := 4, pos := "law.go:177", after := #[{ on := 20, ground := Ground.data }, { on := 23, ground := Ground.chain }, { on := 0, ground := Ground.phase }, { on := 1, ground := Ground.phase }, { on := 2, ground := Ground.phase }, { on := 3, ground := Ground.phase }, { on := 4, ground := Ground.phase }, { on := 5, ground := Ground.phase }, { on := 6, ground := Ground.phase }, { on := 7, ground := Ground.phase }, { on := 8, ground := Ground.phase }, { on := 9, ground := Ground.phase }, { on := 10, ground := Ground.phase }, { on := 11, ground := Ground.phase }, { on := 12, ground := Ground.phase }, { on := 13, ground := Ground.phase }, { on := 14, ground := Ground.phase }, { on := 15, ground := Ground.phase }, { on := 16, ground := Ground.phase }, { on := 17, ground := Ground.phase }, { on := 18, ground := Ground.phase }, { on := 19, ground := Ground.phase }, { on := 20, ground := Ground.phase }, { on := 21, ground := Ground.phase }, { on := 22, ground := Ground.phase }, { on := 23, ground := Ground.phase }], guard := none }) (v := ?_) rfl (by kernel_rfl) (by kernel_rfl) (by kernel_rfl) (fun _ _ _ h => h) (Or.inl ⟨by rfl, ?_⟩) (by assumption) ?_
            rotate_left
            · (intro w hSw; (try dsimp only at hSw); go_simp); (try with_reducible rfl)
            try simp only [Act.put, List.setIfInBounds_toArray, List.set_cons_zero, List.set_cons_succ]
            refine wpAnyH_done (by kernel_rfl) ?_ _
            refine NoPanic.normal ?_
            have ⟨PB, OD⟩ := RetCo.box2 (q := (x1, (1 + x2), G1)) (d := d1) (w := w4.drew) o5 bs5 od5
            have F := Lib.hid (show PBox (w5.alloc (.cells #[.int .i64 x1, .int .i64 (1 + x2), .slice A5 G1.length c5] 31)) w4.heap.size w5.heap.size (x1, (1 + x2), G1) ∧ (w5.alloc (.cells #[.int .i64 x1, .int .i64 (1 + x2), .slice A5 G1.length c5] 31)).ownsRow w4.heap.size 5 1 (.slice D5 d1.length cd5) d1.length (byteCells d1) ∧ Below w4.heap.size w4 (w5.alloc (.cells #[.int .i64 x1, .int .i64 (1 + x2), .slice A5 G1.length c5] 31)) ∧ w4.heap.size ≤ w5.heap.size from ⟨PB, OD, b6, b05.size⟩)
            clear PB OD b6 hb5 o5 bs5 od5 HC
            go_wp2_with fail
            go_meet
            exact ⟨_, D5, cd5, rfl, rfl, rfl, F.out⟩
          · have b0a := b00.alloc (Nat.le_refl _) (.cells #[.int .i64 0, .int .i64 0, .slice none 0 0] 31)
            go_simp
            refine hK.out _ _ (by (try dsimp only); exact HS.out _ b0a) (fun hHeld => ?_)
            clear hK K
            try simp only [Act.put, List.setIfInBounds_toArray, List.set_cons_zero, List.set_cons_succ]
            have kz : Blk (w4.drew.alloc (.cells #[.int .i64 0, .int .i64 0, .slice none 0 0] 31)) w4.heap.size 31 #[.int .i64 0, .int .i64 0, .slice none 0 0] := Blk.new w4.drew 31 #[.int .i64 0, .int .i64 0, .slice none 0 0] rfl
            have ha : w4.heap.size + 1 ≤ (w4.drew.alloc (.cells #[.int .i64 0, .int .i64 0, .slice none 0 0] 31)).heap.size := by rw [World.size_alloc]; exact Nat.le_refl _
            refine wpAnyH_ready (rs := [16]) (by kernel_rfl) (by simp) ?_
            refine AllReadyH.cons (o := { dst := some 78, op := Op.call { callee := Callee.value (Operand.func 17), args := #[Operand.tmp 62, Operand.tmp 64, Operand.tmp 67, Operand.tmp 77], argTypes := #[31, 3, 3, 23] }, type := 42, pos := "law.go:177", after := #[{ on := 0, ground := Ground.data }, { on := 2, ground := Ground.data }, { on := 5, ground := Ground.data }, { on := 15, ground := Ground.data }], guard := none }) rfl (fun K hK => ?_) AllReadyH.nil
            go_simp
            refine (HC.out _ b0a).mono ?_; rintro e w5 ⟨A5, c5, vs5, D5, cd5, rfl, o5, bs5, od5, hb5⟩; (try dsimp only at o5); (try dsimp only at bs5); (try dsimp only at od5); (try dsimp only); have b05 : Below w4.heap.size w4 w5 := b0a.trans (hb5.mono (by omega)); have kz5 := kz.later hb5; obtain ⟨w6, hst6, k6, g6, z6⟩ := prt_st kz5 rfl #[.int .i64 x1, .int .i64 (1 + x2), .slice A5 G1.length c5] rfl rfl; have b6 := b05.grown g6 b05.size (fun k e => by cases e; exact Nat.le_refl _)
            refine hK.out _ _ (by (try dsimp only); exact HS.out _ b05) (fun hHeld => ?_)
            clear hK K
            try simp only [Act.put, List.setIfInBounds_toArray, List.set_cons_zero, List.set_cons_succ]
            refine wpAnyH_take (i := 17) (oi := { dst := some 61, op := Op.move (Operand.tmp 78), type := 42, pos := "law.go:177", after := #[{ on := 16, ground := Ground.data }], guard := none }) (v := ?_) rfl (by kernel_rfl) (by kernel_rfl) (by kernel_rfl) (fun _ _ _ h => h) (Or.inl ⟨by rfl, ?_⟩) (by assumption) ?_
            rotate_left
            · (intro w hSw; (try dsimp only at hSw); go_simp); (try with_reducible rfl)
            try simp only [Act.put, List.setIfInBounds_toArray, List.set_cons_zero, List.set_cons_succ]
            refine wpAnyH_take (i := 18) (oi := { dst := some 79, op := Op.extract (Operand.tmp 61) 0, type := 31, pos := "law.go:177", after := #[{ on := 17, ground := Ground.data }], guard := none }) (v := ?_) rfl (by kernel_rfl) (by kernel_rfl) (by kernel_rfl) (fun _ _ _ h => h) (Or.inl ⟨by rfl, ?_⟩) (by assumption) ?_
            rotate_left
            · (intro w hSw; (try dsimp only at hSw); go_simp); (try with_reducible rfl)
            try simp only [Act.put, List.setIfInBounds_toArray, List.set_cons_zero, List.set_cons_succ]
            refine wpAnyH_take (i := 19) (oi := { dst := some 80, op := Op.extract (Operand.tmp 61) 1, type := 23, pos := "law.go:177", after := #[{ on := 17, ground := Ground.data }, { on := 22, ground := Ground.gcOnly Departure.lateStores }], guard := none }) (v := ?_) rfl (by kernel_rfl) (by kernel_rfl) (by kernel_rfl) (fun _ _ _ h => h) (Or.inl ⟨by rfl, ?_⟩) (by assumption) ?_
            rotate_left
            · (intro w hSw; (try dsimp only at hSw); go_simp); (try with_reducible rfl)
            try simp only [Act.put, List.setIfInBounds_toArray, List.set_cons_zero, List.set_cons_succ]
            refine wpAnyH_take (i := 20) (oi := { dst := some 81, op := Op.extract (Operand.tmp 61) 2, type := 4, pos := "law.go:177", after := #[{ on := 17, ground := Ground.data }, { on := 23, ground := Ground.gcOnly Departure.lateStores }], guard := none }) (v := ?_) rfl (by kernel_rfl) (by kernel_rfl) (by kernel_rfl) (fun _ _ _ h => h) (Or.inl ⟨by rfl, ?_⟩) (by assumption) ?_
            rotate_left
            · (intro w hSw; (try dsimp only at hSw); go_simp); (try with_reducible rfl)
            try simp only [Act.put, List.setIfInBounds_toArray, List.set_cons_zero, List.set_cons_succ]
            refine wpAnyH_ready (rs := [22]) (by kernel_rfl) (by simp) ?_
            refine AllReadyH.cons (o := { dst := none, op := Op.store 31 (Operand.tmp 16) (Operand.tmp 79), type := 0, pos := "law.go:177", after := #[{ on := 21, ground := Ground.data }, { on := 18, ground := Ground.data }, { on := 16, ground := Ground.chain }, { on := 0, ground := Ground.phase }, { on := 1, ground := Ground.phase }, { on := 2, ground := Ground.phase }, { on := 3, ground := Ground.phase }, { on := 4, ground := Ground.phase }, { on := 5, ground := Ground.phase }, { on := 6, ground := Ground.phase }, { on := 7, ground := Ground.phase }, { on := 8, ground := Ground.phase }, { on := 9, ground := Ground.phase }, { on := 10, ground := Ground.phase }, { on := 11, ground := Ground.phase }, { on := 12, ground := Ground.phase }, { on := 13, ground := Ground.phase }, { on := 14, ground := Ground.phase }, { on := 15, ground := Ground.phase }, { on := 16, ground := Ground.phase }, { on := 17, ground := Ground.phase }, { on := 18, ground := Ground.phase }, { on := 19, ground := Ground.textOnly Departure.lateStores }, { on := 20, ground := Ground.textOnly Departure.lateStores }, { on := 21, ground := Ground.phase }], guard := none }) rfl (fun K hK => ?_) AllReadyH.nil
            skip
            refine step_stp hst6 ⟨rfl, rfl⟩ ?_
            refine hK.out _ _ (by (try dsimp only); exact HS.out _ b6) (fun hHeld => ?_)
            clear hK K
            try simp only [Act.put, List.setIfInBounds_toArray, List.set_cons_zero, List.set_cons_succ]
            refine wpAnyH_take (i := 23) (oi := { dst := some 17, op := Op.assign (Operand.tmp 80), type := 23, pos := "law.go:177", after := #[{ on := 19, ground := Ground.data }, { on := 22, ground := Ground.chain }, { on := 0, ground := Ground.phase }, { on := 1, ground := Ground.phase }, { on := 2, ground := Ground.phase }, { on := 3, ground := Ground.phase }, { on := 4, ground := Ground.phase }, { on := 5, ground := Ground.phase }, { on := 6, ground := Ground.phase }, { on := 7, ground := Ground.phase }, { on := 8, ground := Ground.phase }, { on := 9, ground := Ground.phase }, { on := 10, ground := Ground.phase }, { on := 11, ground := Ground.phase }, { on := 12, ground := Ground.phase }, { on := 13, ground := Ground.phase }, { on := 14, ground := Ground.phase }, { on := 15, ground := Ground.phase }, { on := 16, ground := Ground.phase }, { on := 17, ground := Ground.phase }, { on := 18, ground := Ground.phase }, { on := 19, ground := Ground.phase }, { on := 20, ground := Ground.textOnly Departure.lateStores }, { on := 21, ground := Ground.phase }, { on := 22, ground := Ground.phase }], guard := none }) (v := ?_) rfl (by kernel_rfl) (by kernel_rfl) (by kernel_rfl) (fun _ _ _ h => h) (Or.inl ⟨by rfl, ?_⟩) (by assumption) ?_
            rotate_left
            · (intro w hSw; (try dsimp only at hSw); go_simp); (try with_reducible rfl)
            try simp only [Act.put, List.setIfInBounds_toArray, List.set_cons_zero, List.set_cons_succ]
            refine wpAnyH_take (i := 24) (oi := { dst := some 18, op := Op.assign (Operand.tmp 81), type := 4, pos := "law.go:177", after := #[{ on := 20, ground := Ground.data }, { on := 23, ground := Ground.chain }, { on := 0, ground := Ground.phase }, { on := 1, ground := Ground.phase }, { on := 2, ground := Ground.phase }, { on := 3, ground := Ground.phase }, { on := 4, ground := Ground.phase }, { on := 5, ground := Ground.phase }, { on := 6, ground := Ground.phase }, { on := 7, ground := Ground.phase }, { on := 8, ground := Ground.phase }, { on := 9, ground := Ground.phase }, { on := 10, ground := Ground.phase }, { on := 11, ground := Ground.phase }, { on := 12, ground := Ground.phase }, { on := 13, ground := Ground.phase }, { on := 14, ground := Ground.phase }, { on := 15, ground := Ground.phase }, { on := 16, ground := Ground.phase }, { on := 17, ground := Ground.phase }, { on := 18, ground := Ground.phase }, { on := 19, ground := Ground.phase }, { on := 20, ground := Ground.phase }, { on := 21, ground := Ground.phase }, { on := 22, ground := Ground.phase }, { on := 23, ground := Ground.phase }], guard := none }) (v := ?_) rfl (by kernel_rfl) (by kernel_rfl) (by kernel_rfl) (fun _ _ _ h => h) (Or.inl ⟨by rfl, ?_⟩) (by assumption) ?_
            rotate_left
            · (intro w hSw; (try dsimp only at hSw); go_simp); (try with_reducible rfl)
            try simp only [Act.put, List.setIfInBounds_toArray, List.set_cons_zero, List.set_cons_succ]
            refine wpAnyH_done (by kernel_rfl) ?_ _
            refine NoPanic.normal ?_
            have ⟨PB, OD⟩ := RetCo.box (q := (x1, (1 + x2), G1)) (d := d1) o5 bs5 od5 kz5 k6 g6
            have F := Lib.hid (show PBox w6 w4.heap.size w4.heap.size (x1, (1 + x2), G1) ∧ w6.ownsRow w4.heap.size 5 1 (.slice D5 d1.length cd5) d1.length (byteCells d1) ∧ Below w4.heap.size w4 w6 ∧ w4.heap.size ≤ w4.heap.size from ⟨PB.more (by omega), own_more OD (by omega), b6, Nat.le_refl _⟩)
            clear PB OD g6 b6 k6 kz5 kz hb5 o5 bs5 od5 HC hst6
            go_wp2_with fail
            go_meet
            exact ⟨_, D5, cd5, rfl, rfl, rfl, F.out⟩
        case rest => as_aux_lemma =>
          obtain ⟨g2, D2, cd2, rfl, rfl, rfl, PB2, OD2, b2, hg2⟩ := hcut
          rename World => y5
          have z5 := b2.size
          have zz5 := Nat.le_trans zz4 z5
          have bb5 := Hbb4.out.trans (b2.mono zz4)
          have PB0 := HPB0.out.below b2 (Nat.le_refl _)
          have PB1 := PB1.out.below b2 (Nat.le_refl _)
          have OD1 := own_below HOD1.out b2 (Nat.le_refl _)
          obtain ⟨A6, c6, v6, k6, o6, q6⟩ := PB2
          have HC := Lib.hid (fun W (q : Below y5.heap.size y5 W) => (show Calls Try.prog 17 #[.agg #[.int .i64 x1, .int .i64 (1 + x2), .slice A6 G1.length c6], .int .i64 x1, .int .i64 x2, .slice Ap0 pt0.length cp0] W (RetCo W ((x1, 1 + x2, G1), [], false)) by
            rw [← HO3.out]
            exact collect_own (own_below o6 q (Nat.le_refl _)) (q6.below q (Nat.le_refl _)) ((HSP.out.2.2.below bb5 (Nat.le_refl _)).below q zz5) (Nat.le_trans zz5 q.size) (by rw [HGl.out]; omega) HGs.out Hpl.out.2))
          have HS := Lib.hid (fun W (q : Below y5.heap.size y5 W) => (show Hid (W.rangeAt g2 0 (#[.int .i64 x1, .int .i64 (1 + x2), .slice A6 G1.length c6] : Array Value).toList) ∧ W.cell? ⟨b, o, none⟩ = some (.slice Ap0 pt0.length cp0) from
            ⟨Lib.hid (blk_range (k6.later q)), ((q.cell (p := ⟨b, o, none⟩) (Nat.lt_of_lt_of_le hb2 zz5)).trans (bb5.cell (p := ⟨b, o, none⟩) hb2)).trans HSP.out.2.1⟩))
          have PB2 : Hid (PBox y5 w4.heap.size g2 (x1, 1 + x2, G1)) := Lib.hid ⟨A6, c6, v6, k6, o6, q6⟩
          have HPB0 := Lib.hid PB0
          have HPB1 := Lib.hid PB1
          have HOD1 := Lib.hid OD1
          have HOD2 := Lib.hid OD2
          have Hbb5 := Lib.hid bb5
          have b00 : Below y5.heap.size y5 y5.drew := (Below.refl _ _).drew
          clear k6 o6 q6 PB0 PB1 OD1 OD2 bb5 b2
          go_upto_region 13 with fail
          go_cut [19, 20, 21] (fun s13 s14 s15 wx => ∃ (g : Nat) (D : Option Addr) (cd : Nat), s13 = .pointer (some ⟨g, 0, none⟩) ∧ s14 = .slice D ([] : List UInt8).length cd ∧ s15 = .bool false ∧ PBox wx y5.heap.size g (x1, 1 + x2, G1) ∧ wx.ownsRow y5.heap.size 5 1 (.slice D ([] : List UInt8).length cd) ([] : List UInt8).length (byteCells ([] : List UInt8)) ∧ Below y5.heap.size y5 wx ∧ y5.heap.size ≤ g)
          case first => as_aux_lemma =>
            refine wp_region_noPanic ?_
            refine wp_region_held_drew (S := (fun w' : World => Hid (w'.rangeAt g2 0 (#[.int .i64 x1, .int .i64 (1 + x2), .slice A6 G1.length c6] : Array Value).toList) ∧ w'.cell? ⟨b, o, none⟩ = some (.slice Ap0 pt0.length cp0))) (by kernel_rfl) (by (try dsimp only); exact HS.out _ b00) (fun hHeld => ?_)
            refine wpAnyH_take (i := 0) (oi := { dst := some 83, op := Op.load 31 (Operand.tmp 16), type := 31, pos := "law.go:178", after := #[], guard := none }) (v := .agg #[.int .i64 x1, .int .i64 (1 + x2), .slice A6 G1.length c6]) rfl (by kernel_rfl) (by kernel_rfl) (by kernel_rfl) (fun _ _ _ h => h) (Or.inl ⟨by rfl, fun w hSw => exec_ldp hSw.1 rfl rfl⟩) (by assumption) ?_
            try simp only [Act.put, List.setIfInBounds_toArray, List.set_cons_zero, List.set_cons_succ]
            refine wpAnyH_take (i := 1) (oi := { dst := some 84, op := Op.move (Operand.tmp 1), type := 50, pos := "law.go:178", after := #[], guard := none }) (v := ?_) rfl (by kernel_rfl) (by kernel_rfl) (by kernel_rfl) (fun _ _ _ h => h) (Or.inl ⟨by rfl, ?_⟩) (by assumption) ?_
            rotate_left
            · (intro w hSw; (try dsimp only at hSw); go_simp); (try with_reducible rfl)
            try simp only [Act.put, List.setIfInBounds_toArray, List.set_cons_zero, List.set_cons_succ]
            refine wpAnyH_take (i := 2) (oi := { dst := some 85, op := Op.convert 50 3 (Operand.tmp 84), type := 3, pos := "law.go:178", after := #[{ on := 1, ground := Ground.data }], guard := none }) (v := ?_) rfl (by kernel_rfl) (by kernel_rfl) (by kernel_rfl) (fun _ _ _ h => h) (Or.inl ⟨by rfl, ?_⟩) (by assumption) ?_
            rotate_left
            · (intro w hSw; (try dsimp only at hSw); go_simp); (try with_reducible rfl)
            try simp only [Act.put, List.setIfInBounds_toArray, List.set_cons_zero, List.set_cons_succ]
            refine wpAnyH_take (i := 3) (oi := { dst := some 86, op := Op.move (Operand.tmp 2), type := 50, pos := "law.go:178", after := #[], guard := none }) (v := ?_) rfl (by kernel_rfl) (by kernel_rfl) (by kernel_rfl) (fun _ _ _ h => h) (Or.inl ⟨by rfl, ?_⟩) (by assumption) ?_
            rotate_left
            · (intro w hSw; (try dsimp only at hSw); go_simp); (try with_reducible rfl)
            try simp only [Act.put, List.setIfInBounds_toArray, List.set_cons_zero, List.set_cons_succ]
            refine wpAnyH_take (i := 4) (oi := { dst := some 87, op := Op.convert 50 3 (Operand.tmp 86), type := 3, pos := "law.go:178", after := #[{ on := 3, ground := Ground.data }], guard := none }) (v := ?_) rfl (by kernel_rfl) (by kernel_rfl) (by kernel_rfl) (fun _ _ _ h => h) (Or.inl ⟨by rfl, ?_⟩) (by assumption) ?_
            rotate_left
            · (intro w hSw; (try dsimp only at hSw); go_simp); (try with_reducible rfl)
            try simp only [Act.put, List.setIfInBounds_toArray, List.set_cons_zero, List.set_cons_succ]
            refine wpAnyH_take (i := 5) (oi := { dst := some 88, op := Op.move (Operand.tmp 10), type := 29, pos := "law.go:178", after := #[], guard := none }) (v := ?_) rfl (by kernel_rfl) (by kernel_rfl) (by kernel_rfl) (fun _ _ _ h => h) (Or.inl ⟨by rfl, ?_⟩) (by assumption) ?_
            rotate_left
            · (intro w hSw; (try dsimp only at hSw); go_simp); (try with_reducible rfl)
            try simp only [Act.put, List.setIfInBounds_toArray, List.set_cons_zero, List.set_cons_succ]
            refine wpAnyH_take (i := 6) (oi := { dst := some 89, op := Op.indexAddr 29 (Operand.tmp 88) (Operand.const (Value.int IntKind.i64 0)), type := 0, pos := "law.go:178", after := #[{ on := 5, ground := Ground.data }], guard := none }) (v := ?_) rfl (by kernel_rfl) (by kernel_rfl) (by kernel_rfl) (fun _ _ _ h => h) (Or.inl ⟨by rfl, ?_⟩) (by assumption) ?_
            rotate_left
            · (intro w hSw; (try dsimp only at hSw); go_simp); (try with_reducible rfl)
            try simp only [Act.put, List.setIfInBounds_toArray, List.set_cons_zero, List.set_cons_succ]
            refine wpAnyH_take (i := 7) (oi := { dst := some 90, op := Op.load 23 (Operand.tmp 89), type := 23, pos := "law.go:178", after := #[{ on := 6, ground := Ground.data }], guard := none }) (v := ?_) rfl (by kernel_rfl) (by kernel_rfl) (by kernel_rfl) (fun _ _ _ h => h) (Or.inl ⟨by rfl, ?_⟩) (by assumption) ?_
            rotate_left
            · (intro w hSw; (try dsimp only at hSw); go_simp); (try with_reducible rfl)
            try simp only [Act.put, List.setIfInBounds_toArray, List.set_cons_zero, List.set_cons_succ]
            refine wpAnyH_ready (rs := [8, 13]) (by kernel_rfl) (by simp) ?_
            refine AllReadyH.cons (o := { dst := some 91, op := Op.call { callee := Callee.value (Operand.func 17), args := #[Operand.tmp 83, Operand.tmp 85, Operand.tmp 87, Operand.tmp 90], argTypes := #[31, 3, 3, 23] }, type := 42, pos := "law.go:178", after := #[{ on := 0, ground := Ground.data }, { on := 2, ground := Ground.data }, { on := 4, ground := Ground.data }, { on := 7, ground := Ground.data }], guard := none }) rfl (fun K hK => ?_) (AllReadyH.cons (o := { dst := some 19, op := Op.alloc 31, type := 0, pos := "law.go:178", after := #[], guard := none }) rfl (fun K hK => ?_) AllReadyH.nil)
            · go_simp
              refine (HC.out _ b00).mono ?_
              rintro e w5 ⟨A5, c5, vs5, D5, cd5, rfl, o5, bs5, od5, hb5⟩; (try dsimp only at o5); (try dsimp only at bs5); (try dsimp only at od5); (try dsimp only)
              have b05 : Below y5.heap.size y5 w5 := b00.trans (hb5.mono (Nat.le_refl _))
              refine hK.out _ _ (by (try dsimp only); exact HS.out _ b05) (fun hHeld => ?_)
              clear hK K
              try simp only [Act.put, List.setIfInBounds_toArray, List.set_cons_zero, List.set_cons_succ]
              refine wpAnyH_take (i := 9) (oi := { dst := some 82, op := Op.move (Operand.tmp 91), type := 42, pos := "law.go:178", after := #[{ on := 8, ground := Ground.data }], guard := none }) (v := ?_) rfl (by kernel_rfl) (by kernel_rfl) (by kernel_rfl) (fun _ _ _ h => h) (Or.inl ⟨by rfl, ?_⟩) (by assumption) ?_
              rotate_left
              · (intro w hSw; (try dsimp only at hSw); go_simp); (try with_reducible rfl)
              try simp only [Act.put, List.setIfInBounds_toArray, List.set_cons_zero, List.set_cons_succ]
              refine wpAnyH_take (i := 10) (oi := { dst := some 92, op := Op.extract (Operand.tmp 82) 0, type := 31, pos := "law.go:178", after := #[{ on := 9, ground := Ground.data }], guard := none }) (v := ?_) rfl (by kernel_rfl) (by kernel_rfl) (by kernel_rfl) (fun _ _ _ h => h) (Or.inl ⟨by rfl, ?_⟩) (by assumption) ?_
              rotate_left
              · (intro w hSw; (try dsimp only at hSw); go_simp); (try with_reducible rfl)
              try simp only [Act.put, List.setIfInBounds_toArray, List.set_cons_zero, List.set_cons_succ]
              refine wpAnyH_take (i := 11) (oi := { dst := some 93, op := Op.extract (Operand.tmp 82) 1, type := 23, pos := "law.go:178", after := #[{ on := 9, ground := Ground.data }, { on := 14, ground := Ground.gcOnly Departure.lateStores }], guard := none }) (v := ?_) rfl (by kernel_rfl) (by kernel_rfl) (by kernel_rfl) (fun _ _ _ h => h) (Or.inl ⟨by rfl, ?_⟩) (by assumption) ?_
              rotate_left
              · (intro w hSw; (try dsimp only at hSw); go_simp); (try with_reducible rfl)
              try simp only [Act.put, List.setIfInBounds_toArray, List.set_cons_zero, List.set_cons_succ]
              refine wpAnyH_take (i := 12) (oi := { dst := some 94, op := Op.extract (Operand.tmp 82) 2, type := 4, pos := "law.go:178", after := #[{ on := 9, ground := Ground.data }, { on := 15, ground := Ground.gcOnly Departure.lateStores }], guard := none }) (v := ?_) rfl (by kernel_rfl) (by kernel_rfl) (by kernel_rfl) (fun _ _ _ h => h) (Or.inl ⟨by rfl, ?_⟩) (by assumption) ?_
              rotate_left
              · (intro w hSw; (try dsimp only at hSw); go_simp); (try with_reducible rfl)
              try simp only [Act.put, List.setIfInBounds_toArray, List.set_cons_zero, List.set_cons_succ]
              refine wpAnyH_ready (rs := [13]) (by kernel_rfl) (by simp) ?_
              refine AllReadyH.cons (o := { dst := some 19, op := Op.alloc 31, type := 0, pos := "law.go:178", after := #[], guard := none }) rfl (fun K hK => ?_) AllReadyH.nil
              go_simp
              have b6 := b05.alloc b05.size (.cells #[.int .i64 x1, .int .i64 (1 + x2), .slice A5 G1.length c5] 31)
              refine hK.out _ _ (by (try dsimp only); exact HS.out _ (b05.alloc b05.size _)) (fun hHeld => ?_)
              clear hK K
              try simp only [Act.put, List.setIfInBounds_toArray, List.set_cons_zero, List.set_cons_succ]
              refine wpAnyH_ready (rs := [14]) (by kernel_rfl) (by simp) ?_
              refine AllReadyH.cons (o := { dst := none, op := Op.store 31 (Operand.tmp 19) (Operand.tmp 92), type := 0, pos := "law.go:178", after := #[{ on := 13, ground := Ground.data }, { on := 10, ground := Ground.data }, { on := 8, ground := Ground.chain }, { on := 0, ground := Ground.phase }, { on := 1, ground := Ground.phase }, { on := 2, ground := Ground.phase }, { on := 3, ground := Ground.phase }, { on := 4, ground := Ground.phase }, { on := 5, ground := Ground.phase }, { on := 6, ground := Ground.phase }, { on := 7, ground := Ground.phase }, { on := 8, ground := Ground.phase }, { on := 9, ground := Ground.phase }, { on := 10, ground := Ground.phase }, { on := 11, ground := Ground.textOnly Departure.lateStores }, { on := 12, ground := Ground.textOnly Departure.lateStores }, { on := 13, ground := Ground.phase }], guard := none }) rfl (fun K hK => ?_) AllReadyH.nil
              go_simp
              skip
              refine hK.out _ _ (by (try dsimp only); exact HS.out _ b6) (fun hHeld => ?_)
              clear hK K
              try simp only [Act.put, List.setIfInBounds_toArray, List.set_cons_zero, List.set_cons_succ]
              refine wpAnyH_take (i := 15) (oi := { dst := some 20, op := Op.assign (Operand.tmp 93), type := 23, pos := "law.go:178", after := #[{ on := 11, ground := Ground.data }, { on := 14, ground := Ground.chain }, { on := 0, ground := Ground.phase }, { on := 1, ground := Ground.phase }, { on := 2, ground := Ground.phase }, { on := 3, ground := Ground.phase }, { on := 4, ground := Ground.phase }, { on := 5, ground := Ground.phase }, { on := 6, ground := Ground.phase }, { on := 7, ground := Ground.phase }, { on := 8, ground := Ground.phase }, { on := 9, ground := Ground.phase }, { on := 10, ground := Ground.phase }, { on := 11, ground := Ground.phase }, { on := 12, ground := Ground.textOnly Departure.lateStores }, { on := 13, ground := Ground.phase }, { on := 14, ground := Ground.phase }], guard := none }) (v := ?_) rfl (by kernel_rfl) (by kernel_rfl) (by kernel_rfl) (fun _ _ _ h => h) (Or.inl ⟨by rfl, ?_⟩) (by assumption) ?_
              rotate_left
              · (intro w hSw; (try dsimp only at hSw); go_simp); (try with_reducible rfl)
              try simp only [Act.put, List.setIfInBounds_toArray, List.set_cons_zero, List.set_cons_succ]
              refine wpAnyH_take (i := 16) (oi := { dst := some 21, op := Op.assign (Operand.tmp 94), type := 4, pos := "law.go:178", after := #[{ on := 12, ground := Ground.data }, { on := 15, ground := Ground.chain }, { on := 0, ground := Ground.phase }, { on := 1, ground := Ground.phase }, { on := 2, ground := Ground.phase }, { on := 3, ground := Ground.phase }, { on := 4, ground := Ground.phase }, { on := 5, ground := Ground.phase }, { on := 6, ground := Ground.phase }, { on := 7, ground := Ground.phase }, { on := 8, ground := Ground.phase }, { on := 9, ground := Ground.phase }, { on := 10, ground := Ground.phase }, { on := 11, ground := Ground.phase }, { on := 12, ground := Ground.phase }, { on := 13, ground := Ground.phase }, { on := 14, ground := Ground.phase }, { on := 15, ground := Ground.phase }], guard := none }) (v := ?_) rfl (by kernel_rfl) (by kernel_rfl) (by kernel_rfl) (fun _ _ _ h => h) (Or.inl ⟨by rfl, ?_⟩) (by assumption) ?_
              rotate_left
              · (intro w hSw; (try dsimp only at hSw); go_simp); (try with_reducible rfl)
              try simp only [Act.put, List.setIfInBounds_toArray, List.set_cons_zero, List.set_cons_succ]
              refine wpAnyH_done (by kernel_rfl) ?_ _
              refine NoPanic.normal ?_
              have ⟨PB, OD⟩ := RetCo.box2 (q := (x1, (1 + x2), G1)) (d := ([] : List UInt8)) (w := y5.drew) o5 bs5 od5
              have F := Lib.hid (show PBox (w5.alloc (.cells #[.int .i64 x1, .int .i64 (1 + x2), .slice A5 G1.length c5] 31)) y5.heap.size w5.heap.size (x1, (1 + x2), G1) ∧ (w5.alloc (.cells #[.int .i64 x1, .int .i64 (1 + x2), .slice A5 G1.length c5] 31)).ownsRow y5.heap.size 5 1 (.slice D5 ([] : List UInt8).length cd5) ([] : List UInt8).length (byteCells ([] : List UInt8)) ∧ Below y5.heap.size y5 (w5.alloc (.cells #[.int .i64 x1, .int .i64 (1 + x2), .slice A5 G1.length c5] 31)) ∧ y5.heap.size ≤ w5.heap.size from ⟨PB, OD, b6, b05.size⟩)
              clear PB OD b6 hb5 o5 bs5 od5 HC
              go_wp2_with fail
              go_meet
              exact ⟨_, D5, cd5, rfl, rfl, rfl, F.out⟩
            · have b0a := b00.alloc (Nat.le_refl _) (.cells #[.int .i64 0, .int .i64 0, .slice none 0 0] 31)
              go_simp
              refine hK.out _ _ (by (try dsimp only); exact HS.out _ b0a) (fun hHeld => ?_)
              clear hK K
              try simp only [Act.put, List.setIfInBounds_toArray, List.set_cons_zero, List.set_cons_succ]
              have kz : Blk (y5.drew.alloc (.cells #[.int .i64 0, .int .i64 0, .slice none 0 0] 31)) y5.heap.size 31 #[.int .i64 0, .int .i64 0, .slice none 0 0] := Blk.new y5.drew 31 #[.int .i64 0, .int .i64 0, .slice none 0 0] rfl
              have ha : y5.heap.size + 1 ≤ (y5.drew.alloc (.cells #[.int .i64 0, .int .i64 0, .slice none 0 0] 31)).heap.size := by rw [World.size_alloc]; exact Nat.le_refl _
              refine wpAnyH_ready (rs := [8]) (by kernel_rfl) (by simp) ?_
              refine AllReadyH.cons (o := { dst := some 91, op := Op.call { callee := Callee.value (Operand.func 17), args := #[Operand.tmp 83, Operand.tmp 85, Operand.tmp 87, Operand.tmp 90], argTypes := #[31, 3, 3, 23] }, type := 42, pos := "law.go:178", after := #[{ on := 0, ground := Ground.data }, { on := 2, ground := Ground.data }, { on := 4, ground := Ground.data }, { on := 7, ground := Ground.data }], guard := none }) rfl (fun K hK => ?_) AllReadyH.nil
              go_simp
              refine (HC.out _ b0a).mono ?_; rintro e w5 ⟨A5, c5, vs5, D5, cd5, rfl, o5, bs5, od5, hb5⟩; (try dsimp only at o5); (try dsimp only at bs5); (try dsimp only at od5); (try dsimp only); have b05 : Below y5.heap.size y5 w5 := b0a.trans (hb5.mono (by omega)); have kz5 := kz.later hb5; obtain ⟨w6, hst6, k6, g6, z6⟩ := prt_st kz5 rfl #[.int .i64 x1, .int .i64 (1 + x2), .slice A5 G1.length c5] rfl rfl; have b6 := b05.grown g6 b05.size (fun k e => by cases e; exact Nat.le_refl _)
              refine hK.out _ _ (by (try dsimp only); exact HS.out _ b05) (fun hHeld => ?_)
              clear hK K
              try simp only [Act.put, List.setIfInBounds_toArray, List.set_cons_zero, List.set_cons_succ]
              refine wpAnyH_take (i := 9) (oi := { dst := some 82, op := Op.move (Operand.tmp 91), type := 42, pos := "law.go:178", after := #[{ on := 8, ground := Ground.data }], guard := none }) (v := ?_) rfl (by kernel_rfl) (by kernel_rfl) (by kernel_rfl) (fun _ _ _ h => h) (Or.inl ⟨by rfl, ?_⟩) (by assumption) ?_
              rotate_left
              · (intro w hSw; (try dsimp only at hSw); go_simp); (try with_reducible rfl)
              try simp only [Act.put, List.setIfInBounds_toArray, List.set_cons_zero, List.set_cons_succ]
              refine wpAnyH_take (i := 10) (oi := { dst := some 92, op := Op.extract (Operand.tmp 82) 0, type := 31, pos := "law.go:178", after := #[{ on := 9, ground := Ground.data }], guard := none }) (v := ?_) rfl (by kernel_rfl) (by kernel_rfl) (by kernel_rfl) (fun _ _ _ h => h) (Or.inl ⟨by rfl, ?_⟩) (by assumption) ?_
              rotate_left
              · (intro w hSw; (try dsimp only at hSw); go_simp); (try with_reducible rfl)
              try simp only [Act.put, List.setIfInBounds_toArray, List.set_cons_zero, List.set_cons_succ]
              refine wpAnyH_take (i := 11) (oi := { dst := some 93, op := Op.extract (Operand.tmp 82) 1, type := 23, pos := "law.go:178", after := #[{ on := 9, ground := Ground.data }, { on := 14, ground := Ground.gcOnly Departure.lateStores }], guard := none }) (v := ?_) rfl (by kernel_rfl) (by kernel_rfl) (by kernel_rfl) (fun _ _ _ h => h) (Or.inl ⟨by rfl, ?_⟩) (by assumption) ?_
              rotate_left
              · (intro w hSw; (try dsimp only at hSw); go_simp); (try with_reducible rfl)
              try simp only [Act.put, List.setIfInBounds_toArray, List.set_cons_zero, List.set_cons_succ]
              refine wpAnyH_take (i := 12) (oi := { dst := some 94, op := Op.extract (Operand.tmp 82) 2, type := 4, pos := "law.go:178", after := #[{ on := 9, ground := Ground.data }, { on := 15, ground := Ground.gcOnly Departure.lateStores }], guard := none }) (v := ?_) rfl (by kernel_rfl) (by kernel_rfl) (by kernel_rfl) (fun _ _ _ h => h) (Or.inl ⟨by rfl, ?_⟩) (by assumption) ?_
              rotate_left
              · (intro w hSw; (try dsimp only at hSw); go_simp); (try with_reducible rfl)
              try simp only [Act.put, List.setIfInBounds_toArray, List.set_cons_zero, List.set_cons_succ]
              refine wpAnyH_ready (rs := [14]) (by kernel_rfl) (by simp) ?_
              refine AllReadyH.cons (o := { dst := none, op := Op.store 31 (Operand.tmp 19) (Operand.tmp 92), type := 0, pos := "law.go:178", after := #[{ on := 13, ground := Ground.data }, { on := 10, ground := Ground.data }, { on := 8, ground := Ground.chain }, { on := 0, ground := Ground.phase }, { on := 1, ground := Ground.phase }, { on := 2, ground := Ground.phase }, { on := 3, ground := Ground.phase }, { on := 4, ground := Ground.phase }, { on := 5, ground := Ground.phase }, { on := 6, ground := Ground.phase }, { on := 7, ground := Ground.phase }, { on := 8, ground := Ground.phase }, { on := 9, ground := Ground.phase }, { on := 10, ground := Ground.phase }, { on := 11, ground := Ground.textOnly Departure.lateStores }, { on := 12, ground := Ground.textOnly Departure.lateStores }, { on := 13, ground := Ground.phase }], guard := none }) rfl (fun K hK => ?_) AllReadyH.nil
              skip
              refine step_stp hst6 ⟨rfl, rfl⟩ ?_
              refine hK.out _ _ (by (try dsimp only); exact HS.out _ b6) (fun hHeld => ?_)
              clear hK K
              try simp only [Act.put, List.setIfInBounds_toArray, List.set_cons_zero, List.set_cons_succ]
              refine wpAnyH_take (i := 15) (oi := { dst := some 20, op := Op.assign (Operand.tmp 93), type := 23, pos := "law.go:178", after := #[{ on := 11, ground := Ground.data }, { on := 14, ground := Ground.chain }, { on := 0, ground := Ground.phase }, { on := 1, ground := Ground.phase }, { on := 2, ground := Ground.phase }, { on := 3, ground := Ground.phase }, { on := 4, ground := Ground.phase }, { on := 5, ground := Ground.phase }, { on := 6, ground := Ground.phase }, { on := 7, ground := Ground.phase }, { on := 8, ground := Ground.phase }, { on := 9, ground := Ground.phase }, { on := 10, ground := Ground.phase }, { on := 11, ground := Ground.phase }, { on := 12, ground := Ground.textOnly Departure.lateStores }, { on := 13, ground := Ground.phase }, { on := 14, ground := Ground.phase }], guard := none }) (v := ?_) rfl (by kernel_rfl) (by kernel_rfl) (by kernel_rfl) (fun _ _ _ h => h) (Or.inl ⟨by rfl, ?_⟩) (by assumption) ?_
              rotate_left
              · (intro w hSw; (try dsimp only at hSw); go_simp); (try with_reducible rfl)
              try simp only [Act.put, List.setIfInBounds_toArray, List.set_cons_zero, List.set_cons_succ]
              refine wpAnyH_take (i := 16) (oi := { dst := some 21, op := Op.assign (Operand.tmp 94), type := 4, pos := "law.go:178", after := #[{ on := 12, ground := Ground.data }, { on := 15, ground := Ground.chain }, { on := 0, ground := Ground.phase }, { on := 1, ground := Ground.phase }, { on := 2, ground := Ground.phase }, { on := 3, ground := Ground.phase }, { on := 4, ground := Ground.phase }, { on := 5, ground := Ground.phase }, { on := 6, ground := Ground.phase }, { on := 7, ground := Ground.phase }, { on := 8, ground := Ground.phase }, { on := 9, ground := Ground.phase }, { on := 10, ground := Ground.phase }, { on := 11, ground := Ground.phase }, { on := 12, ground := Ground.phase }, { on := 13, ground := Ground.phase }, { on := 14, ground := Ground.phase }, { on := 15, ground := Ground.phase }], guard := none }) (v := ?_) rfl (by kernel_rfl) (by kernel_rfl) (by kernel_rfl) (fun _ _ _ h => h) (Or.inl ⟨by rfl, ?_⟩) (by assumption) ?_
              rotate_left
              · (intro w hSw; (try dsimp only at hSw); go_simp); (try with_reducible rfl)
              try simp only [Act.put, List.setIfInBounds_toArray, List.set_cons_zero, List.set_cons_succ]
              refine wpAnyH_done (by kernel_rfl) ?_ _
              refine NoPanic.normal ?_
              have ⟨PB, OD⟩ := RetCo.box (q := (x1, (1 + x2), G1)) (d := ([] : List UInt8)) o5 bs5 od5 kz5 k6 g6
              have F := Lib.hid (show PBox w6 y5.heap.size y5.heap.size (x1, (1 + x2), G1) ∧ w6.ownsRow y5.heap.size 5 1 (.slice D5 ([] : List UInt8).length cd5) ([] : List UInt8).length (byteCells ([] : List UInt8)) ∧ Below y5.heap.size y5 w6 ∧ y5.heap.size ≤ y5.heap.size from ⟨PB.more (by omega), own_more OD (by omega), b6, Nat.le_refl _⟩)
              clear PB OD g6 b6 k6 kz5 kz hb5 o5 bs5 od5 HC hst6
              go_wp2_with fail
              go_meet
              exact ⟨_, D5, cd5, rfl, rfl, rfl, F.out⟩
          case rest => as_aux_lemma =>
            obtain ⟨g3, D3, cd3, rfl, rfl, rfl, PB3, OD3, b3, hg3⟩ := hcut
            rename World => w6
            have z6 := b3.size
            have bb6 := Hbb5.out.trans (b3.mono zz5)
            obtain ⟨Aq, cq, vq, kP, -, -⟩ := HPB0.out.below b3 (Nat.le_refl _)
            obtain ⟨A1, c1, v1, kq1, -, -⟩ := HPB1.out.below b3 (Nat.le_refl _)
            obtain ⟨A3, c3, v3, kq3, -, -⟩ := PB3
            obtain ⟨A2, c2', v2, kq2, oq2, bq2⟩ := PB2.out.below b3 (Nat.le_refl _)
            have sd1 := Sl.of_own (own_below HOD1.out b3 (Nat.le_refl _))
            have sd2 := Sl.of_own (own_below HOD2.out b3 (Nat.le_refl _))
            have bbw := Hbb2.out.trans (bb6.mono zz2)
            obtain ⟨w7, hst, kW, g7, z7⟩ := prt_st kP rfl #[.int .i64 x1, .int .i64 (1 + x2), .slice A2 G1.length c2'] rfl rfl
            have PBN : Hid (PBox w7 w2.heap.size w2.heap.size (onP x1 (1 + x2) l 32 m t (i + 1)) ∧ Below w2.heap.size w2 w7) := Lib.hid (by
              rw [HN.out]
              exact ⟨⟨A2, c2', v2, kW, own_more (own_grBlk oq2 kP (by decide) g7) (by omega), (bq2.grBlk kP (by decide) g7).more (by omega)⟩, bb6.grown g7 (by omega) (fun k e => by cases e; exact Nat.le_refl _)⟩)
            have c1k : w6.cell? ⟨g1, 2, none⟩ = some (.slice A1 (i + 1) c1) := by have := kq1.rules.1 2; simp only [HGl.out] at this; exact this
            have c2k : w6.cell? ⟨g2, 2, none⟩ = some (.slice A2 (i + 1) c2') := by have := kq2.rules.1 2; simp only [HGl.out] at this; exact this
            have c3k : w6.cell? ⟨g3, 2, none⟩ = some (.slice A3 (i + 1) c3) := by have := kq3.rules.1 2; simp only [HGl.out] at this; exact this
            have ag1 := addr_add g1 0 2
            have ag2 := addr_add g2 0 2
            have ag3 := addr_add g3 0 2
            have q2 := bs3 kq2 rfl
            clear HC HS kP kq1 kq3 oq2 bq2 PB2 HPB0 HPB1 OD3 b3 kW g7 HOD1 HOD2 PB1 bb6
            have hla := Hla.out
            have hd1 := Hd1.out
            have hiI : (i : Int) < m := by omega
            cases la
            · have him : ¬ (i + 1 = m) := by simpa using hla
              have himI : ((i : Int) == (m : Int) - 1) = false := by simp; omega
              have himJ : decide ((i : Int) = (m : Int) - 1) = false := by simp; omega
              clear hla hd1 sd1 sd2 bbw him
              go_wp2_with (first | ((with_reducible refine wpList_ldp q2 ?_ ?_); rfl) | ((with_reducible refine wpList_stp hst ?_ ?_); exact ⟨rfl, rfl⟩))
              go_roundg (m - (i + 1))
              case measure => have := HG.out; omega
              case rel => exact ⟨i + 1, rfl, by omega, by go_num, PBN.out.1, PBN.out.2⟩
            · have him : i + 1 = m := by simpa using hla.symm
              rw [if_pos him] at hd1
              subst hd1
              have himI : ((i : Int) == (m : Int) - 1) = true := by simp; omega
              have himJ : decide ((i : Int) = (m : Int) - 1) = true := by simp; omega
              have e1 := run_string_of sd1 Try.underlying23 Try.underlying5 Try.underlying9
              have e2 := run_string_of sd2 Try.underlying23 Try.underlying5 Try.underlying9
              have e3 := run_string_of (HSl.out _ bbw) Try.underlying23 Try.underlying5 Try.underlying9
              clear hla sd1 sd2 bbw him
              go_wp2_with (first | ((with_reducible refine wpList_ldp q2 ?_ ?_); rfl) | ((with_reducible refine wpList_stp hst ?_ ?_); exact ⟨rfl, rfl⟩))
              go_roundg (m - (i + 1))
              case measure => have := HG.out; omega
              case rel => exact ⟨i + 1, rfl, by omega, by go_num, PBN.out.1, PBN.out.2⟩
    · obtain rfl : i = m := by omega
      have hN : onP x1 (1 + x2) l 32 i t i = (x1, 1 + x2, (onKs i t i).map (cPart l 32 i)) := by unfold onP; rw [if_neg (by omega)]
      rw [hN] at hP
      obtain ⟨Aq, cq, vq, kq, oq, bq⟩ := hP
      have ⟨kc, kf⟩ := kq.rules
      have a0 := addr_add w2.heap.size 0 0
      have a1 := addr_add w2.heap.size 0 1
      have F := Lib.hid (Hbb2.out.trans (bb.mono zz2))
      clear hN oq bq bb kq
      go_wp2_with fail
      go_ret
      exact ⟨rfl, F.out⟩
end Go.Proofs.Ytfeeincglijmjaa
