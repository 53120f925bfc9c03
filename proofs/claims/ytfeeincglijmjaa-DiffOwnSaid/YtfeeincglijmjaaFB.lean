/- The walk of diff.Cut. -/
import Derived.Test.YtfeeincglijmjaaVH
import Derived.Test.YtfeeincglijmjaaFA
import Derived.Deep.LoopGhost
import Derived.Deep.DeepCutAuto
namespace Go.Proofs.Ytfeeincglijmjaa
open Go.RowKit
set_option linter.unusedVariables false
set_option linter.unusedSimpArgs false
attribute [local go_sem ↓] Go.wp_at_zero Go.wp_at_succ

theorem info23 : (Try.prog.info? 23).map (fun i => (i.zero, i.size, i.bytes)) = some (some (.slice none 0 0), 1, 24) := by kernel_rfl
theorem vSize_ok {x : Int} (h0 : 0 ≤ x) (h1 : x ≤ 4611686018427387903) : vSize x ≠ 0 := by
  unfold vSize
  rw [if_neg (by omega)]
  split
  · decide
  · split
    · decide
    · split <;> decide
theorem vJoin_ok {l : List Int} (h : ∀ x ∈ l, 0 ≤ x ∧ x ≤ 4611686018427387903) : vJoin l = (vCat l, 0) := by
  unfold vJoin
  rw [if_pos (fun x hx => vSize_ok (h x hx).1 (h x hx).2)]
/-- Values that are rows of bytes of the callee's own. -/
def Bs (w : World) (base : Nat) (vs : List Value) (ps : List (List UInt8)) : Prop :=
  vs.length = ps.length ∧ ∀ (i : Nat) (v : Value) (p : List UInt8), vs[i]? = some v → ps[i]? = some p → ∃ (A : Option Addr) (c : Nat), v = Value.slice A p.length c ∧ w.ownsRow base 5 1 (Value.slice A p.length c) p.length (byteCells p)
theorem Bs.nil (w : World) (base : Nat) : Bs w base [] [] := ⟨rfl, fun i v p h => by cases h⟩
theorem Bs.below {w w' : World} {base B : Nat} {vs : List Value} {ps : List (List UInt8)} (h : Bs w base vs ps) (hb : Below B w w') (hB : w.heap.size ≤ B) : Bs w' base vs ps :=
  ⟨h.1, fun i v p h1 h2 => by
    obtain ⟨A, c, e, ho⟩ := h.2 i v p h1 h2
    exact ⟨A, c, e, own_below ho hb hB⟩⟩
theorem Bs.more {w : World} {base base' : Nat} {vs : List Value} {ps : List (List UInt8)} (h : Bs w base vs ps) (hb : base' ≤ base) : Bs w base' vs ps :=
  ⟨h.1, fun i v p h1 h2 => by
    obtain ⟨A, c, e, ho⟩ := h.2 i v p h1 h2
    exact ⟨A, c, e, own_more ho hb⟩⟩
/-- A row of one type stays, where a row of another type grows. -/
theorem own_apart {w w' : World} {base base2 : Nat} {e e2 : TypeId} {s s2 : Nat} {v v2 : Value} {n n2 : Nat} {xs xs2 : List Value} (h : w.ownsRow base e s v n xs) (h2 : w.ownsRow base2 e2 s2 v2 n2 xs2) (hne : e ≠ e2) (hg : w.grownBy w' v2.ownBlock) : w'.ownsRow base e s v n xs := by
  refine ⟨h.1, ?_⟩
  rcases h.2 with h3 | ⟨g, cap, cur, hv, hgb, hh, r⟩
  · exact .inl h3
  · refine .inr ⟨g, cap, cur, hv, hgb, (hg.block g (Array.getElem?_eq_some_iff.1 hh).1 (fun e' => ?_)).trans hh, r⟩
    rcases h2.2 with ⟨e4, _⟩ | ⟨g2, cap2, cur2, hv2, _, hh2, _⟩
    · rw [e4] at e'
      simp [Value.ownBlock] at e'
    · rw [hv2] at e'
      simp only [Value.ownBlock, Option.some.injEq] at e'
      subst e'
      rw [hh] at hh2
      injection hh2 with hh2
      injection hh2 with _ ht
      exact hne ht
theorem Bs.apart {w w' : World} {base base2 : Nat} {vs : List Value} {ps : List (List UInt8)} {e2 : TypeId} {s2 n2 : Nat} {v2 : Value} {xs2 : List Value} (h : Bs w base vs ps) (h2 : w.ownsRow base2 e2 s2 v2 n2 xs2) (hne : (5 : TypeId) ≠ e2) (hg : w.grownBy w' v2.ownBlock) : Bs w' base vs ps :=
  ⟨h.1, fun i v p h1 h3 => by
    obtain ⟨A, c, e, ho⟩ := h.2 i v p h1 h3
    exact ⟨A, c, e, own_apart ho h2 hne hg⟩⟩
theorem Bs.snoc {w : World} {base : Nat} {vs : List Value} {ps : List (List UInt8)} (h : Bs w base vs ps) {A : Option Addr} {p : List UInt8} {n c : Nat} (hn : n = p.length) (ho : w.ownsRow base 5 1 (.slice A n c) n (byteCells p)) : Bs w base (vs ++ [Value.slice A n c]) (ps ++ [p]) := by
  subst hn
  refine ⟨by simp [h.1], fun i v q h1 h2 => ?_⟩
  by_cases hi : i < vs.length
  · rw [List.getElem?_append_left hi] at h1
    rw [List.getElem?_append_left (by rw [← h.1]; exact hi)] at h2
    exact h.2 i v q h1 h2
  · rw [List.getElem?_append_right (by omega)] at h1
    rw [List.getElem?_append_right (by rw [← h.1]; omega)] at h2
    rw [h.1] at h1
    generalize i - ps.length = k at *
    cases k with
    | succ k => simp at h1
    | zero =>
      simp only [List.getElem?_cons_zero, Option.some.injEq] at h1 h2
      subst h1 h2
      exact ⟨A, c, rfl, ho⟩
/-- A part. -/
def cPart (l : List UInt8) (s m k : Nat) : List UInt8 := vCat [(k : Int), (m : Int)] ++ (l.drop (k * s)).take s
/-- How large the bytes of a part are; how many there are. -/
def cSz (z : Int) : Nat := (min (max z 20) 2048 - 8).toNat
def cMany (n s : Nat) : Nat := max ((n + s - 1) / s) 1
/-- Parts. -/
def cParts (l : List UInt8) (z : Int) : List (List UInt8) := (List.range (cMany l.length (cSz z))).map (cPart l (cSz z) (cMany l.length (cSz z)))
theorem cSz_bnd (z : Int) : 12 ≤ cSz z ∧ cSz z ≤ 2040 := by unfold cSz; omega
theorem cMany_bnd {n s i : Nat} (hs : 12 ≤ s) (hn : n ≤ 1000000) : 1 ≤ cMany n s ∧ cMany n s ≤ 1000000 ∧ (i < cMany n s → i * s ≤ n) := by
  unfold cMany
  have hd : (n + s - 1) / s * s ≤ n + s - 1 := Nat.div_mul_le_self _ _
  have hq : (n + s - 1) / s ≤ n + s - 1 := Nat.div_le_self _ _
  refine ⟨by omega, ?_, fun hi => ?_⟩
  · have : (n + s - 1) / s * 12 ≤ (n + s - 1) / s * s := Nat.mul_le_mul_left _ hs
    have h2 : (n + s - 1) / s * s ≤ n + s - 1 := hd
    rcases Nat.lt_or_ge n 1 with h0 | h0
    · have : (n + s - 1) / s = 0 := Nat.div_eq_of_lt (by omega)
      omega
    · have : (n + s - 1) / s ≤ n := by
        apply Nat.div_le_of_le_mul
        have : n * 1 ≤ n * s := Nat.mul_le_mul_left _ (by omega)
        have h3 : s * n = n * s := Nat.mul_comm _ _
        have h4 : (n - 1) * (s - 1) + n + s - 1 ≤ n * s := by
          obtain ⟨a, rfl⟩ : ∃ a, n = a + 1 := ⟨n - 1, by omega⟩
          obtain ⟨b, rfl⟩ : ∃ b, s = b + 1 := ⟨s - 1, by omega⟩
          simp only [Nat.add_sub_cancel, Nat.add_mul, Nat.mul_add, Nat.mul_one, Nat.one_mul]
          omega
        omega
      omega
  · rcases Nat.lt_or_ge i ((n + s - 1) / s) with h | h
    · have h1 : (i + 1) * s ≤ (n + s - 1) / s * s := Nat.mul_le_mul_right _ h
      rw [Nat.add_mul, Nat.one_mul] at h1
      omega
    · have : i = 0 := by omega
      subst this
      omega
def RetPs (w : World) (ps : List (List UInt8)) (e : Ending) (w' : World) : Prop :=
  ∃ A c vs, e = .returned (.slice A ps.length c) ∧ w'.ownsRow w.heap.size 23 1 (.slice A ps.length c) ps.length vs ∧ Bs w' w.heap.size vs ps ∧ Below w.heap.size w w'
set_option maxHeartbeats 8000000 in
set_option maxRecDepth 100000 in
theorem cut_any {lo up : Nat} {A : Option Addr} {n c : Nat} {l : List UInt8} {z : Int} {w : World} (hr : Sl w lo up 1 A n c (byteCells l)) (hup : up ≤ w.heap.size) (hn : n ≤ 1000000) :
    Calls Try.prog 22 #[.slice A n c, .int .i64 z] w (RetPs w (cParts l z)) := by
  obtain ⟨i0, hi0, hz0, hz1, hz2⟩ := info_parts info23
  obtain ⟨j0, hj0, jz0, jz1, jz2⟩ := info_parts info5
  have hl0 : n = l.length := by have := hr.len; rw [byteCells_length] at this; omega
  subst hl0
  have HR := Lib.hid hr
  have hsz := cSz_bnd z
  obtain ⟨s, hs⟩ : ∃ s, s = cSz z := ⟨_, rfl⟩
  obtain ⟨m, hm⟩ : ∃ m, m = cMany l.length s := ⟨_, rfl⟩
  have hdiv : ((l.length : Int) + (s : Int) - 1) / (s : Int) = ((l.length + s - 1) / s : Nat) := by
    rw [show (l.length : Int) + (s : Int) - 1 = ((l.length + s - 1 : Nat) : Int) from by omega]
    rfl
  have hmm := hm
  unfold cMany at hmm
  obtain ⟨q, hq⟩ : ∃ q, q = (l.length + s - 1) / s := ⟨_, rfl⟩
  rw [← hq] at hdiv hmm
  have Hcp : Hid (cParts l z = (List.range m).map (cPart l s m)) := Lib.hid (by unfold cParts; rw [← hs, ← hm])
  generalize cParts l z = PS at *
  rw [← hs] at hsz
  have hmb : ∀ i, 1 ≤ m ∧ m ≤ 1000000 ∧ (i < m → i * s ≤ l.length) := fun i => by rw [hm]; exact cMany_bnd hsz.1 hn
  have Hmb := Lib.hid hmb
  have hm1 := (hmb 0).1
  have hm2 := (hmb 0).2.1
  have Hs : Hid ((s : Int) = min (max z 20) 2048 - 8) := Lib.hid (by rw [hs]; unfold cSz; omega)
  have HD := Lib.hid hdiv
  have Hmm : Hid ((q < 1 ∧ m = 1) ∨ (1 ≤ q ∧ m = q)) := Lib.hid (by omega)
  have hs1 : (12 : Int) ≤ s := by omega
  have hs2 : (s : Int) ≤ 2040 := by omega
  have hn' : (l.length : Int) ≤ 1000000 := by omega
  have hn0 : (0 : Int) ≤ l.length := by omega
  clear hr hdiv hmm hq hm hs hmb
  go_enter Try.func22, Try.ntmps22
  go_upto_region 1 with fail
  go_cut [1] (fun s1 wx => s1 = .int .i64 s ∧ w = wx)
  case first =>
    have hs3 := Hs.out
    rcases Int.lt_or_le z 20 with h1 | h1
    · have hs4 : (s : Int) = 12 := by omega
      clear hs3
      go_wp2_with fail
      go_meet
      exact ⟨by rw [hs4], rfl⟩
    · rcases Int.lt_or_le 2048 z with h2 | h2
      · have hs4 : (s : Int) = 2040 := by omega
        clear hs3
        go_wp2_with fail
        go_meet
        exact ⟨by rw [hs4], rfl⟩
      · have hs4 : (s : Int) = z - 8 := by omega
        clear hs3
        go_wp2_with fail
        go_meet
        exact ⟨by rw [hs4], rfl⟩
  case rest =>
    obtain ⟨rfl, rfl⟩ := hcut
    clear Hs
    go_upto_region 2 with fail
    go_cut [5] (fun s5 wx => s5 = .int .i64 m ∧ w = wx)
    case first =>
      have hd := HD.out
      rcases Hmm.out with ⟨h1, h2⟩ | ⟨h1, h2⟩
      · have h3 : (q : Int) < 1 := by omega
        have h4 : (m : Int) = 1 := by omega
        clear h2
        go_wp2_with fail
        go_meet
        exact ⟨by rw [h4], rfl⟩
      · have h3 : 1 ≤ (q : Int) := by omega
        have h4 : (m : Int) = q := by omega
        clear h2
        go_wp2_with fail
        go_meet
        exact ⟨by rw [h4], rfl⟩
    case rest =>
      obtain ⟨rfl, rfl⟩ := hcut
      clear HD Hmm
      have hm3 : (m : Int) ≤ 1000000 := by omega
      go_wp2_with fail
      go_loopg [4, 22] m (fun gh s4 s22 wr => ∃ (i : Nat) (A2 : Option Addr) (c2 : Nat) (vs : List Value), gh = m - i ∧ i ≤ m ∧ s22 = .int .i64 i ∧ s4 = .slice A2 i c2 ∧ wr.ownsRow w.heap.size 23 1 (.slice A2 i c2) i vs ∧ Hid (Bs wr w.heap.size vs ((List.range i).map (cPart l s m))) ∧ Below w.heap.size w wr)
      case atStart => exact ⟨0, none, 0, [], rfl, Nat.zero_le _, rfl, rfl, World.ownsRow_nil _ _ _ _, Lib.hid (Bs.nil _ _), Below.refl _ _⟩
      case round =>
        obtain ⟨i, A2, c2, vs, hgh, him, rfl, rfl, hown, hbs, bb⟩ := hrel
        have HG := Lib.hid hgh
        clear hgh
        have zz := bb.size
        by_cases h : i < m
        · have hP := (Hmb.out i).2.2 h
          obtain ⟨P, hPe⟩ : ∃ P, P = i * s := ⟨_, rfl⟩
          rw [← hPe] at hP
          have hPI : (i : Int) * (s : Int) = P := by rw [hPe]; simp
          have hPI2 : ((i : Int) + 1) * (s : Int) = P + s := by rw [Int.add_mul, hPI]; omega
          have HPe := Lib.hid hPe
          clear hPe
          have hP2 : (P : Int) ≤ l.length := by omega
          have w1 : IntKind.i64.wrap ((i : Int) * (s : Int)) = P := by rw [hPI]; exact IntWalk.i64_in _ (by omega)
          have w2 : IntKind.i64.wrap (((i : Int) + 1) * (s : Int)) = P + s := by rw [hPI2]; exact IntWalk.i64_in _ (by omega)
          clear hPI hPI2
          have hi3 : (i : Int) < m := by omega
          have HJ := join_any (l := [(i : Int), (m : Int)]) (Sl.new wr 3 #[.int .i64 i, .int .i64 m] 1 2 2 (intCells [(i : Int), (m : Int)]) rfl (Nat.le_refl _) rfl rfl) (by simp) (by omega) (by intro x hx; simp at hx; omega)
          rw [vJoin_ok (by intro x hx; simp at hx; omega)] at HJ
          simp only at HJ
          have HJ := Lib.hid HJ
          obtain ⟨V, hV⟩ : ∃ V, V = vCat [(i : Int), (m : Int)] := ⟨_, rfl⟩
          have hVl : V.length ≤ 16 := by rw [hV]; exact vCat_le _
          rw [← hV] at HJ
          have HV := Lib.hid hV
          clear hV
          obtain ⟨k, hk⟩ : ∃ k, k = min s (l.length - P) := ⟨_, rfl⟩
          obtain ⟨A3, hcut3, hs3⟩ := cut_lh Try.underlying23 hj0 jz1 HR.out P k (P : Int) (((P + k : Nat)) : Int) rfl (by omega) (by omega)
          rw [Nat.mul_one, Nat.mul_one, byteCells_drop, byteCells_take] at hs3
          have hkk : (l.drop P).take k = (l.drop P).take s := by
            rw [hk]
            rcases Nat.le_total s (l.length - P) with h | h
            · rw [Nat.min_eq_left h]
            · rw [Nat.min_eq_right h, List.take_of_length_le (by rw [List.length_drop]; exact Nat.le_refl _), List.take_of_length_le (by rw [List.length_drop]; exact h)]
          rw [hkk] at hs3
          have HS3 := Lib.hid hs3
          have Hcut3 := Lib.hid hcut3
          have hk2 : k ≤ 2040 := by omega
          clear hs3 hcut3 hkk
          have Hk := Lib.hid hk
          clear hk
          go_wp2_with fail
          refine HJ.out.mono ?_
          rintro e w3 ⟨A4, c4, rfl, own4, hb4⟩
          have hb4' : Below wr.heap.size wr w3 := ((Below.refl wr.heap.size wr).alloc (Nat.le_refl _) _).trans (hb4.mono (by simp))
          have zz3 := hb4'.size
          have own4' := own_more own4 (base' := wr.heap.size) (by simp)
          have hge : ∀ k, Value.ownBlock (.slice A4 V.length c4) = some k → wr.heap.size ≤ k := fun k hk => (own4'.lt k hk).1
          have sl3 := HS3.out.below (bb.trans (hb4'.mono zz)) hup
          clear hb4 own4 HJ
          rcases Nat.lt_or_ge l.length (P + s) with hc | hc
          · have hcut3 := Hcut3.out
            rw [show ((P + k : Nat) : Int) = (l.length : Int) from by have := Hk.out; omega] at hcut3
            have hdm : ((l.length : Int) < (P : Int) + (s : Int)) = True := eq_true (by omega)
            have hdm2 : decide ((l.length : Int) < (P : Int) + (s : Int)) = true := by simp; omega
            clear Hk hc hP2 hP
            go_wp2_with (first
              | (at_builtin; refine wpList_append_sl _ rfl (.tmp 33) (.tmp 45) 23 rfl w.heap.size 5 j0 _ 1 1 Try.underlying23 hj0 jz0 jz1 jz2 rfl (by omega) (.slice A4 V.length c4) V.length (byteCells V) rfl (own_more own4' zz) lo up A3 k (c - P) (byteCells ((l.drop P).take s)) rfl sl3 (byteCells_one _) (V.length + k) rfl _ rfl (by unfold maxLen; omega) (by omega) (by omega) ?_; intro A5 c5 w5 hown5 hg5; have b5 := hb4'.grown hg5 zz3 hge; have own2 := own_below hown b5 (Nat.le_refl _); have zz5 := b5.size; have Hb5 := Lib.hid b5; have Hown5 := Lib.hid hown5; clear hg5 b5 hown5)
              | (at_builtin; refine wpList_append_sl _ rfl (.tmp 32) (.tmp 47) 29 rfl w.heap.size 23 i0 _ 1 24 Try.underlying29 hi0 hz0 hz1 hz2 rfl (by omega) (.slice A2 i c2) i vs rfl (own_alloc own2 _) w5.heap.size (w5.heap.size + 1) (some ⟨w5.heap.size, 0, none⟩) 1 1 [.slice A5 (V.length + k) c5] rfl (Sl.new w5 23 #[.slice A5 (V.length + k) c5] 1 1 1 _ rfl (Nat.le_refl _) rfl rfl) (by intro u hu; simp at hu; subst hu; rfl) (i + 1) rfl _ rfl (by unfold maxLen; omega) (by omega) (by simp; omega) ?_; intro A6 c6 w6 hown6 hg6; have Hown6 := Lib.hid hown6; have Hg6 := Lib.hid hg6; clear hown6 hg6))
            go_roundg (m - (i + 1))
            case measure => have := HG.out; omega
            case rel =>
              refine ⟨i + 1, A6, c6, _, rfl, by omega, by go_num, rfl, Hown6.out, Lib.hid ?_, ?_⟩
              · rw [List.range_succ, List.map_append, List.map_cons, List.map_nil]
                have hpart : cPart l s m i = V ++ (l.drop P).take s := by rw [HV.out, HPe.out]; rfl
                rw [hpart]
                have e1 := Hown5.out
                rw [← byteCells_append] at e1
                have al := (Below.refl w5.heap.size w5).alloc (Nat.le_refl _) (.cells #[.slice A5 (V.length + k) c5] 23)
                exact ((((hbs.out.below Hb5.out (Nat.le_refl _)).below al (Nat.le_refl _))).snoc (by have := e1.1; rw [byteCells_length] at this; omega) (own_below e1 al (Nat.le_refl _))).apart (own_alloc own2 _) (by decide) Hg6.out
              · exact ((bb.trans (Hb5.out.mono zz)).alloc (by omega) _).grown Hg6.out (by simp; omega) (fun k hk => ((own_alloc own2 (.cells #[.slice A5 (V.length + k) c5] 23)).lt k hk).1)
          · have hcut3 := Hcut3.out
            rw [show ((P + k : Nat) : Int) = (P : Int) + (s : Int) from by have := Hk.out; omega] at hcut3
            have hdm : ((l.length : Int) < (P : Int) + (s : Int)) = False := eq_false (by omega)
            have hdm2 : decide ((l.length : Int) < (P : Int) + (s : Int)) = false := by simp; omega
            clear Hk hc hP2 hP
            go_wp2_with (first
              | (at_builtin; refine wpList_append_sl _ rfl (.tmp 33) (.tmp 45) 23 rfl w.heap.size 5 j0 _ 1 1 Try.underlying23 hj0 jz0 jz1 jz2 rfl (by omega) (.slice A4 V.length c4) V.length (byteCells V) rfl (own_more own4' zz) lo up A3 k (c - P) (byteCells ((l.drop P).take s)) rfl sl3 (byteCells_one _) (V.length + k) rfl _ rfl (by unfold maxLen; omega) (by omega) (by omega) ?_; intro A5 c5 w5 hown5 hg5; have b5 := hb4'.grown hg5 zz3 hge; have own2 := own_below hown b5 (Nat.le_refl _); have zz5 := b5.size; have Hb5 := Lib.hid b5; have Hown5 := Lib.hid hown5; clear hg5 b5 hown5)
              | (at_builtin; refine wpList_append_sl _ rfl (.tmp 32) (.tmp 47) 29 rfl w.heap.size 23 i0 _ 1 24 Try.underlying29 hi0 hz0 hz1 hz2 rfl (by omega) (.slice A2 i c2) i vs rfl (own_alloc own2 _) w5.heap.size (w5.heap.size + 1) (some ⟨w5.heap.size, 0, none⟩) 1 1 [.slice A5 (V.length + k) c5] rfl (Sl.new w5 23 #[.slice A5 (V.length + k) c5] 1 1 1 _ rfl (Nat.le_refl _) rfl rfl) (by intro u hu; simp at hu; subst hu; rfl) (i + 1) rfl _ rfl (by unfold maxLen; omega) (by omega) (by simp; omega) ?_; intro A6 c6 w6 hown6 hg6; have Hown6 := Lib.hid hown6; have Hg6 := Lib.hid hg6; clear hown6 hg6))
            go_roundg (m - (i + 1))
            case measure => have := HG.out; omega
            case rel =>
              refine ⟨i + 1, A6, c6, _, rfl, by omega, by go_num, rfl, Hown6.out, Lib.hid ?_, ?_⟩
              · rw [List.range_succ, List.map_append, List.map_cons, List.map_nil]
                have hpart : cPart l s m i = V ++ (l.drop P).take s := by rw [HV.out, HPe.out]; rfl
                rw [hpart]
                have e1 := Hown5.out
                rw [← byteCells_append] at e1
                have al := (Below.refl w5.heap.size w5).alloc (Nat.le_refl _) (.cells #[.slice A5 (V.length + k) c5] 23)
                exact ((((hbs.out.below Hb5.out (Nat.le_refl _)).below al (Nat.le_refl _))).snoc (by have := e1.1; rw [byteCells_length] at this; omega) (own_below e1 al (Nat.le_refl _))).apart (own_alloc own2 _) (by decide) Hg6.out
              · exact ((bb.trans (Hb5.out.mono zz)).alloc (by omega) _).grown Hg6.out (by simp; omega) (fun k hk => ((own_alloc own2 (.cells #[.slice A5 (V.length + k) c5] 23)).lt k hk).1)
        · obtain rfl : i = m := by omega
          go_wp2_with fail
          go_ret
          refine ⟨A2, c2, vs, ?_, ?_, ?_, bb⟩
          · rw [Hcp.out]; simp
          · rw [Hcp.out]; simpa using hown
          · rw [Hcp.out]; exact hbs.out
end Go.Proofs.Ytfeeincglijmjaa
