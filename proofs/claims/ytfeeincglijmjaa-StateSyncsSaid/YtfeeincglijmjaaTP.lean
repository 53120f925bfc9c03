/- Plain laws of StateSyncs: what a client takes of what a server makes. -/
import Derived.Test.YtfeeincglijmjaaTH
import Derived.Test.YtfeeincglijmjaaTK
namespace Go.Proofs.Ytfeeincglijmjaa
open Go.RowKit
set_option linter.unusedVariables false
set_option linter.unusedSimpArgs false

/-- The difference of two shown screens; of how many parts it is. -/
def dD (x y : Int × Scr) : List UInt8 := (dDiff' x.2 y.2).1
def dM (x y : Int × Scr) (z : Int) : Nat := cMany (dD x y).length (cSz z)
def dC (x y : Int × Scr) (z : Int) (k : Nat) : List UInt8 := cPart (dD x y) (cSz z) (dM x y z) k
/-- No number stands for two screens. -/
def One (all : List (Int × Scr)) : Prop := ∀ x ∈ all, ∀ y ∈ all, x.1 = y.1 → x = y
/-- Parts that are held are those of one difference. -/
def PI (all : List (Int × Scr)) (z : Int) (p : Int × Int × List (List UInt8)) : Prop :=
  p = (0, 0, []) ∨ ∃ x ∈ all, ∃ y ∈ all, ∃ ks : List Nat, p = (x.1, y.1, ks.map (dC x y z)) ∧ ks.Nodup ∧ (∀ k ∈ ks, k < dM x y z) ∧ dM x y z ≤ 4096
theorem PI.more {all : List (Int × Scr)} {z : Int} {p : Int × Int × List (List UInt8)} (h : PI all z p) (u : Int × Scr) : PI (all ++ [u]) z p := by
  rcases h with h | ⟨x, hx, y, hy, ks, r⟩
  · exact .inl h
  · exact .inr ⟨x, List.mem_append_left _ hx, y, List.mem_append_left _ hy, ks, r⟩
theorem nodup_len : ∀ (m : Nat) (ks : List Nat), ks.Nodup → (∀ k ∈ ks, k < m) → ks.length ≤ m
  | 0, ks, hn, hk => by
    cases ks with
    | nil => exact Nat.le_refl _
    | cons a r => exact absurd (hk a (List.mem_cons_self ..)) (by omega)
  | m + 1, ks, hn, hk => by
    by_cases h : m ∈ ks
    · have h1 := nodup_len m (ks.erase m) (hn.erase m) (fun k hk2 => by
        have h2 := (List.Nodup.mem_erase_iff hn).1 hk2
        have := hk k h2.2
        have := h2.1
        omega)
      rw [List.length_erase_of_mem h] at h1
      omega
    · have h1 := nodup_len m ks hn (fun k hk2 => by
        have := hk k hk2
        have : k ≠ m := fun e => h (e ▸ hk2)
        omega)
      omega
theorem cPart_le {l : List UInt8} {s m k : Nat} : (cPart l s m k).length ≤ 16 + s := by
  unfold cPart
  have := vCat_le [(k : Int), (m : Int)]
  simp only [List.length_append, List.length_take, List.length_cons, List.length_nil] at this ⊢
  omega
theorem PI.bnd {all : List (Int × Scr)} {z : Int} {p : Int × Int × List (List UInt8)} (h : PI all z p) : p.2.2.length ≤ 4096 ∧ ∀ q ∈ p.2.2, q.length ≤ 3000 := by
  rcases h with rfl | ⟨x, hx, y, hy, ks, rfl, hn, hk, hm⟩
  · exact ⟨by simp, fun q hq => by cases hq⟩
  · refine ⟨by simp only [List.length_map]; exact Nat.le_trans (nodup_len _ ks hn hk) hm, fun q hq => ?_⟩
    rw [List.mem_map] at hq
    obtain ⟨k, _, rfl⟩ := hq
    have := cSz_bnd z
    have := cPart_le (l := dD x y) (s := cSz z) (m := dM x y z) (k := k)
    show (cPart (dD x y) (cSz z) (dM x y z) k).length ≤ 3000
    omega
/-- One more part of a difference is collected. -/
theorem pi_step {all : List (Int × Scr)} {z : Int} {p : Int × Int × List (List UInt8)} {x y : Int × Scr} {k : Nat} (hf : One all) (hx : x ∈ all) (hy : y ∈ all) (hp : PI all z p) (hn : p.2.1 ≤ y.1) (hM : dM x y z ≤ 4096) (hk : k < dM x y z) (hy0 : 0 < y.1) :
    ∃ ks : List Nat, dCollect p.1 p.2.1 p.2.2 x.1 y.1 (dC x y z k) = ((x.1, y.1, ks.map (dC x y z)), (jJoin (ks.map (dC x y z))).1, decide ((jJoin (ks.map (dC x y z))).2 = 0)) ∧ ks.Nodup ∧ (∀ j ∈ ks, j < dM x y z) ∧ k ∈ ks ∧
      (∀ ks0 : List Nat, p = (x.1, y.1, ks0.map (dC x y z)) → (∀ j ∈ ks0, j < dM x y z) → ∀ j ∈ ks0, j ∈ ks) := by
  have hmn : dMany (dC x y z k) = (dM x y z : Int) := many_cPart hM hk
  have hb := hp.bnd
  have inj : ∀ i j, i < dM x y z → j < dM x y z → dC x y z i = dC x y z j → i = j := fun i j hi hj h => cPart_inj hM hi hj h
  -- what is kept
  obtain ⟨ks1, hks1, hn1, hk1, hold⟩ : ∃ ks1 : List Nat, dKeep p.1 p.2.1 p.2.2 x.1 y.1 (dC x y z k) = ks1.map (dC x y z) ∧ ks1.Nodup ∧ (∀ j ∈ ks1, j < dM x y z) ∧ (∀ ks0 : List Nat, p = (x.1, y.1, ks0.map (dC x y z)) → (∀ j ∈ ks0, j < dM x y z) → ∀ j ∈ ks0, j ∈ ks1) := by
    rcases hp with rfl | ⟨x', hx', y', hy', ks, rfl, hn', hk', hm'⟩
    · refine ⟨[], ?_, List.nodup_nil, fun j hj => (by cases hj), fun ks0 h0 _ j hj => ?_⟩
      · unfold dKeep
        rw [if_neg (by simp only; omega)]
        rfl
      · injection h0 with e1 e2
        injection e2 with e2 e3
        have : ks0 = [] := List.map_eq_nil_iff.1 e3.symm
        subst this
        cases hj
    · by_cases he : x.1 = x'.1 ∧ y.1 = y'.1
      · have ex := hf x hx x' hx' he.1
        have ey := hf y hy y' hy' he.2
        subst ex ey
        refine ⟨ks, ?_, hn', hk', fun ks0 h0 hk0 j hj => ?_⟩
        · unfold dKeep
          refine if_pos ⟨rfl, rfl, ?_⟩
          simp only
          cases ks with
          | nil => exact .inl rfl
          | cons a r => exact .inr (by rw [List.map_cons, List.headD_cons, hmn]; exact many_cPart hM (hk' a (List.mem_cons_self ..)))
        · injection h0 with e1 e2
          injection e2 with e2 e3
          have hm : dC x y z j ∈ ks.map (dC x y z) := by rw [e3]; exact List.mem_map.2 ⟨j, hj, rfl⟩
          rw [List.mem_map] at hm
          obtain ⟨j', hj', e⟩ := hm
          rw [← inj j' j (hk' j' hj') (hk0 j hj) e]
          exact hj'
      · refine ⟨[], ?_, List.nodup_nil, fun j hj => (by cases hj), fun ks0 h0 _ j hj => ?_⟩
        · unfold dKeep
          rw [if_neg (by simp only; exact fun h => he ⟨h.1, h.2.1⟩)]
          rfl
        · injection h0 with e1 e2
          injection e2 with e2 e3
          exact absurd ⟨e1.symm, e2.symm⟩ he
  -- and one more
  have hcol : dCollect p.1 p.2.1 p.2.2 x.1 y.1 (dC x y z k) = ((x.1, y.1, dMore (ks1.map (dC x y z)) (dC x y z k)), (jJoin (dMore (ks1.map (dC x y z)) (dC x y z k))).1, decide ((jJoin (dMore (ks1.map (dC x y z)) (dC x y z k))).2 = 0)) := by
    unfold dCollect
    rw [if_neg (by rw [hmn]; have := hb.1; omega), hks1]
  rw [hcol]
  unfold dMore
  by_cases hin : k ∈ ks1
  · rw [if_pos (List.mem_map.2 ⟨k, hin, rfl⟩)]
    exact ⟨ks1, rfl, hn1, hk1, hin, hold⟩
  · rw [if_neg (fun h => by
      rw [List.mem_map] at h
      obtain ⟨j, hj, e⟩ := h
      rw [inj j k (hk1 j hj) hk e] at hj
      exact hin hj)]
    refine ⟨ks1 ++ [k], by rw [List.map_append]; rfl, ?_, fun j hj => ?_, by simp, fun ks0 h0 h1 j hj => List.mem_append_left _ (hold ks0 h0 h1 j hj)⟩
    · rw [List.nodup_append]
      refine ⟨hn1, by simp, fun a ha b hb2 => ?_⟩
      rw [List.mem_singleton] at hb2
      subst hb2
      intro e
      subst e
      exact hin ha
    · rw [List.mem_append, List.mem_singleton] at hj
      rcases hj with hj | rfl
      · exact hk1 j hj
      · exact hk
/-- Brought together, parts are the difference, if all are there; else none. -/
theorem join_is {x y : Int × Scr} {z : Int} {ks : List Nat} (hM : dM x y z ≤ 4096) (hk : ∀ j ∈ ks, j < dM x y z) : ((∀ j, j < dM x y z → j ∈ ks) ∧ jJoin (ks.map (dC x y z)) = (dD x y, 0)) ∨ ((jJoin (ks.map (dC x y z))).2 ≠ 0 ∧ ¬ ∀ j, j < dM x y z → j ∈ ks) := by
  have hs := cSz_bnd z
  by_cases h : ∀ j, j < dM x y z → j ∈ ks
  · exact .inl ⟨h, join_all hM (by unfold dM cMany; omega) (many_ge (by omega)) hk h⟩
  · refine .inr ⟨?_, h⟩
    obtain ⟨g, hg⟩ := Classical.not_forall.1 h
    have hg1 : g < dM x y z := Classical.byContradiction fun hc => hg (fun h2 => absurd h2 hc)
    have hg2 : g ∉ ks := fun hc => hg (fun _ => hc)
    have : jJoin (ks.map (dC x y z)) = ([], 190) := join_gone hM hg1 hk hg2
    rw [this]
    decide

/-- What stands of a round: all numbers, the first and the last screen of the server. -/
structure Ctx (all : List (Int × Scr)) (z : Int) (x y : Int × Scr) : Prop where
  one : One all
  hx : x ∈ all
  hy : y ∈ all
  top : ∀ u ∈ all, u.1 ≤ y.1
  gx : gOk x.2 = true
  gy : gOk y.2 = true
  hM : dM x y z ≤ 4096
  y0 : 0 < y.1
  y1 : y.1 ≤ 4611686018427387903
/-- What stands within a round, behind k parts. -/
structure SJ (all : List (Int × Scr)) (z : Int) (x y : Int × Scr) (ll o1 : Bool) (k : Nat) (c : List (Int × Scr)) (p : Int × Int × List (List UInt8)) : Prop where
  ck : sCheck c = true
  sub : ∀ u ∈ c, u ∈ all
  hd : x ∈ c
  pi : PI all z p
  pn : p.2.1 ≤ y.1
  full : ll = true → 1 ≤ k → ∃ ks : List Nat, p = (x.1, y.1, ks.map (dC x y z)) ∧ (∀ j ∈ ks, j < dM x y z) ∧ ∀ j, j < k → j ∈ ks
  fin : ll = true → 1 ≤ k → k = dM x y z → ∃ u, c.getLast? = some u ∧ u.1 = y.1
  eq1 : o1 = true → c.getLast? = some y
theorem take_sync {all : List (Int × Scr)} {z : Int} {x y : Int × Scr} {c : List (Int × Scr)} (C : Ctx all z x y) (hck : sCheck c = true) (hsub : ∀ u ∈ c, u ∈ all) (hd : x ∈ c) :
    sCheck (dTake c x.1 y.1 (dD x y)).1 = true ∧ (∀ u ∈ (dTake c x.1 y.1 (dD x y)).1, u ∈ all) ∧ x ∈ (dTake c x.1 y.1 (dD x y)).1 ∧
      ∃ u v, c.getLast? = some u ∧ (dTake c x.1 y.1 (dD x y)).1.getLast? = some v ∧ u.1 ≤ v.1 ∧ v.1 = y.1 ∧ ((dTake c x.1 y.1 (dD x y)).2 = true → v ∈ all) := by
  obtain ⟨j, hj, hxj⟩ := List.getElem_of_mem hd
  obtain ⟨u, hu⟩ : ∃ u, c.getLast? = some u := by
    cases hq : c.getLast? with
    | none => rw [List.getLast?_eq_none_iff] at hq; subst hq; cases hd
    | some u => exact ⟨u, rfl⟩
  have hut := C.top u (hsub u (List.mem_of_getLast? hu))
  have hfd : sFind x.1 c = j := by rw [← hxj]; exact find_at hck hj
  have hnone : dNone c x.1 y.1 = decide (y.1 ≤ u.1) := by
    unfold dNone
    rw [hfd, hu]
    have h1 : decide ((j : Int) < 0) = false := by simp
    have h2 : decide (4611686018427387903 < y.1) = false := by have := C.y1; simp; omega
    simp only [h1, h2, Bool.false_or, Bool.or_false]
  by_cases hle : y.1 ≤ u.1
  · have ht : dTake c x.1 y.1 (dD x y) = (c, false) := by
      unfold dTake
      rw [if_pos hck, if_pos (by rw [hnone]; exact decide_eq_true hle)]
    rw [ht]
    exact ⟨hck, hsub, hd, u, u, hu, hu, Int.le_refl _, by omega, fun h => by cases h⟩
  · have hdiff : dDiff' x.2 y.2 = (dD x y, 0) := by unfold dD; rw [sdiff_ok C.gx C.gy]
    have ht : dTake c x.1 y.1 (dD x y) = (dShort (c.drop j ++ [(y.1, y.2)]), true) := by
      unfold dTake
      rw [if_pos hck, if_neg (by rw [hnone]; simpa using hle), hfd, Int.toNat_natCast, List.getElem?_eq_getElem hj]
      simp only
      rw [hxj, apply_yes hdiff]
      exact if_pos rfl
    obtain ⟨-, hA2, hA3, hA4⟩ := acked_at hck hj
    obtain ⟨h1, h2, h3, -⟩ := short_more (k := y.1) (s := y.2) hA2 (fun w hw => by rw [hA4, hu] at hw; injection hw with hw; subst hw; omega) C.y1 C.gy
    rw [ht]
    refine ⟨h1, fun w hw => ?_, ?_, u, y, hu, h2, by omega, rfl, fun _ => C.hy⟩
    · have hw2 : w ∈ c.drop j ++ [(y.1, y.2)] := by
        revert hw
        show w ∈ dShort _ → _
        unfold dShort
        split
        · exact id
        · exact List.mem_of_mem_eraseIdx
      rw [List.mem_append, List.mem_singleton] at hw2
      rcases hw2 with hw2 | rfl
      · exact hsub w (List.mem_of_mem_drop hw2)
      · exact C.hy
    · rw [hA3, hxj] at h3
      exact List.mem_of_head? h3
theorem SJ.skip {all : List (Int × Scr)} {z : Int} {x y : Int × Scr} {o1 : Bool} {k : Nat} {c : List (Int × Scr)} {p : Int × Int × List (List UInt8)} (h : SJ all z x y false o1 k c p) : SJ all z x y false o1 (k + 1) c p :=
  ⟨h.ck, h.sub, h.hd, h.pi, h.pn, (fun h => by cases h), (fun h => by cases h), h.eq1⟩
theorem sj_step {all : List (Int × Scr)} {z : Int} {x y : Int × Scr} {ll : Bool} {k : Nat} {c : List (Int × Scr)} {p : Int × Int × List (List UInt8)} (C : Ctx all z x y) (h : SJ all z x y ll false k c p) (hk : k < dM x y z) :
    ∃ q d o, dCollect p.1 p.2.1 p.2.2 x.1 y.1 (dC x y z k) = (q, d, o) ∧ ((o = false ∧ SJ all z x y ll false (k + 1) c q) ∨
      (o = true ∧ d = dD x y ∧ SJ all z x y ll false (k + 1) (dTake c x.1 y.1 (dD x y)).1 q ∧ ∃ u v, c.getLast? = some u ∧ (dTake c x.1 y.1 (dD x y)).1.getLast? = some v ∧ u.1 ≤ v.1 ∧ ((dTake c x.1 y.1 (dD x y)).2 = true → v ∈ all))) := by
  obtain ⟨ks, hcol, hn, hk1, hkin, hold⟩ := pi_step C.one C.hx C.hy h.pi h.pn C.hM hk C.y0
  have hPI : PI all z (x.1, y.1, ks.map (dC x y z)) := .inr ⟨x, C.hx, y, C.hy, ks, rfl, hn, hk1, C.hM⟩
  have hfull : ll = true → 1 ≤ k + 1 → ∃ ks' : List Nat, ((x.1, y.1, ks.map (dC x y z)) : Int × Int × List (List UInt8)) = (x.1, y.1, ks'.map (dC x y z)) ∧ (∀ j ∈ ks', j < dM x y z) ∧ ∀ j, j < k + 1 → j ∈ ks' := by
    intro hll _
    refine ⟨ks, rfl, hk1, fun j hj => ?_⟩
    by_cases hjk : j = k
    · subst hjk; exact hkin
    · obtain ⟨ks0, h0, h1, h2⟩ := h.full hll (by omega)
      exact hold ks0 h0 h1 j (h2 j (by omega))
  refine ⟨_, _, _, hcol, ?_⟩
  rcases join_is (x := x) (y := y) (z := z) C.hM hk1 with ⟨hall, hj⟩ | ⟨hj, hnall⟩
  · right
    rw [hj]
    obtain ⟨t1, t2, t3, u, v, t4, t5, t6, t7, t8⟩ := take_sync C h.ck h.sub h.hd
    exact ⟨rfl, rfl, ⟨t1, t2, t3, hPI, Int.le_refl _, hfull, fun _ _ _ => ⟨v, t5, t7⟩, (fun h => by cases h)⟩, u, v, t4, t5, t6, t8⟩
  · left
    refine ⟨decide_eq_false hj, h.ck, h.sub, h.hd, hPI, Int.le_refl _, hfull, fun hll h1 hkM => ?_, fun h => by cases h⟩
    obtain ⟨ks', e, _, h2⟩ := hfull hll h1
    exfalso
    apply hnall
    intro j hjm
    have hm : dC x y z j ∈ ks.map (dC x y z) := by
      injection e with _ e
      injection e with _ e
      rw [e]
      exact List.mem_map.2 ⟨j, h2 j (by omega), rfl⟩
    rw [List.mem_map] at hm
    obtain ⟨j', hj', e'⟩ := hm
    rw [← cPart_inj (l := dD x y) (s := cSz z) C.hM (hk1 j' hj') hjm e']
    exact hj'
/-- What stands ahead of a round. -/
structure SO (i : Nat) (z : Int) (m c all : List (Int × Scr)) (p : Int × Int × List (List UInt8)) : Prop where
  mok : sCheck m = true
  ck : sCheck c = true
  one : One all
  ms : ∀ u ∈ m, u ∈ all
  cs : ∀ u ∈ c, u ∈ all
  top : ∀ x, m.getLast? = some x → (∀ u ∈ all, u.1 ≤ x.1) ∧ x.1 ≤ i
  hd : ∀ x, m.head? = some x → x ∈ c
  eq : m.length = 1 → c.getLast? = m.getLast?
  pi : PI all z p
  pn : ∀ x, m.getLast? = some x → p.2.1 ≤ x.1
  len : all.length ≤ i + 1
theorem SO.later {i : Nat} {z : Int} {m c all : List (Int × Scr)} {p : Int × Int × List (List UInt8)} (h : SO i z m c all p) : SO (i + 1) z m c all p :=
  ⟨h.mok, h.ck, h.one, h.ms, h.cs, fun x hx => ⟨(h.top x hx).1, by have := (h.top x hx).2; omega⟩, h.hd, h.eq, h.pi, h.pn, by have := h.len; omega⟩
theorem ends_of {m : List (Int × Scr)} (h : sCheck m = true) : ∃ x y, m.head? = some x ∧ m.getLast? = some y ∧ x ∈ m ∧ y ∈ m ∧ (m.length ≠ 1 → x.1 < y.1) ∧ (m.length = 1 → m = [y] ∧ x = y) := by
  obtain ⟨h0, h8, hm⟩ := sCheck_parts h
  have h1 : m.head? = some m[0] := by cases m with
    | nil => exact absurd h0 (by decide)
    | cons a r => rfl
  have h2 : m.getLast? = some (m[m.length - 1]'(by omega)) := by rw [List.getLast?_eq_getElem?, List.getElem?_eq_getElem (by omega)]
  refine ⟨_, _, h1, h2, List.getElem_mem _, List.getElem_mem _, fun hne => sOkF_lt (sCheck_ok h) 0 (m.length - 1) h0 (by omega) (by omega), fun he => ?_⟩
  obtain ⟨a, rfl⟩ := List.length_eq_one_iff.1 he
  exact ⟨rfl, rfl⟩
theorem nums_len2 {s t : Scr} (h : t.cs.length ≤ 200) (h2 : t.ms.length ≤ 200) : (dNums s t).length ≤ 1613 := by
  have e1 := chg_size (dGround s t.W t.H).1 t.cs
  have e2 := chg_size (dGround s t.W t.H).2 t.ms
  unfold dNums dHead
  simp only [List.length_append, List.length_cons, List.length_nil]
  split <;> (try simp only [List.length_nil]) <;> omega
theorem dM_le {x y : Int × Scr} {z : Int} (h1 : gOk x.2 = true) (h2 : gOk y.2 = true) (h3 : y.2.cs.length ≤ 200) (h4 : y.2.ms.length ≤ 200) : dM x y z ≤ 4096 ∧ (dD x y).length ≤ 13000 := by
  have hs := cSz_bnd z
  have hd : (dD x y).length ≤ 13000 := by
    unfold dD
    rw [sdiff_ok h1 h2]
    have := vCat_le (dNums x.2 y.2)
    have := nums_len2 (s := x.2) h3 h4
    show (vCat (dNums x.2 y.2)).length ≤ 13000
    omega
  refine ⟨?_, hd⟩
  unfold dM cMany
  have : ((dD x y).length + cSz z - 1) / cSz z ≤ (13000 + cSz z - 1) / 12 := Nat.le_trans (Nat.div_le_div_left hs.1 (by omega)) (Nat.div_le_div_right (by omega))
  omega
/-- A screen is pushed. -/
theorem so_push {i : Nat} {z : Int} {m c all : List (Int × Scr)} {p : Int × Int × List (List UInt8)} {s : Scr} (h : SO i z m c all p) (hs : gOk s = true) (h1 : s.cs.length ≤ 200) (h2 : s.ms.length ≤ 200) (hi : i < 20) (ll : Bool) :
    ∃ x y, (dPush m s).head? = some x ∧ (dPush m s).getLast? = some y ∧ y.2 = s ∧ sCheck (dPush m s) = true ∧ (∀ u ∈ dPush m s, u ∈ all ++ [y]) ∧ y.1 ≤ (i : Int) + 1 ∧ (∀ u ∈ all ++ [y], u.1 ≤ y.1) ∧ One (all ++ [y]) ∧
      (decide ((dPush m s).length = 1) = false → Ctx (all ++ [y]) z x y) ∧ SJ (all ++ [y]) z x y ll (decide ((dPush m s).length = 1)) 0 c p := by
  obtain ⟨xm, ym, hh, hl, hxm, hym, hlt, hone1⟩ := ends_of h.mok
  have ht := h.top ym hl
  have hyk := last_top h.mok hl
  have hsub : ∀ y, ∀ u ∈ c, u ∈ all ++ [y] := fun y u hu => List.mem_append_left _ (h.cs u hu)
  by_cases hst : dStill ym s = true
  · have hp : dPush m s = m := by
      unfold dPush
      rw [if_pos h.mok, hl]
      exact if_pos hst
    have he : ym.2 = s := by
      unfold dStill at hst
      rw [hs] at hst
      simp only [Bool.not_true, Bool.false_or, Bool.or_eq_true, beq_iff_eq] at hst
      rcases hst with h1 | h1
      · exact same_eq h1
      · omega
    have hya := h.ms ym hym
    have h1' : ∀ u ∈ all ++ [ym], u ∈ all := fun u hu => by
      rw [List.mem_append, List.mem_singleton] at hu
      rcases hu with hu | rfl
      · exact hu
      · exact hya
    rw [hp]
    have hO : One (all ++ [ym]) := fun a ha b hb hab => h.one a (h1' a ha) b (h1' b hb) hab
    have htop : ∀ u ∈ all ++ [ym], u.1 ≤ ym.1 := fun u hu => ht.1 u (h1' u hu)
    refine ⟨xm, ym, hh, hl, he, h.mok, fun u hu => List.mem_append_left _ (h.ms u hu), by omega, htop, hO, fun hne => ?_, ?_⟩
    · have hne' : m.length ≠ 1 := by simpa using hne
      have hgx := (sCheck_parts h.mok).2.2 xm hxm
      have := hlt hne'
      exact ⟨hO, List.mem_append_left _ (h.ms xm hxm), List.mem_append_left _ hya, htop, hgx.2.2, hyk.2.2, (dM_le hgx.2.2 hyk.2.2 (by rw [he]; exact h1) (by rw [he]; exact h2)).1, by omega, hyk.2.1⟩
    · exact ⟨h.ck, hsub ym, h.hd xm hh, h.pi.more ym, h.pn ym hl, fun _ h => absurd h (by omega), fun _ h => absurd h (by omega), fun ho => by rw [← hl]; exact h.eq (by simpa using ho)⟩
  · have hp : dPush m s = dShort (m ++ [(ym.1 + 1, s)]) := by
      unfold dPush
      rw [if_pos h.mok, hl]
      exact if_neg hst
    obtain ⟨g1, g2, g3, g4⟩ := short_more (k := ym.1 + 1) (s := s) h.mok (fun w hw => by rw [hl] at hw; injection hw with hw; subst hw; omega) (by omega) hs
    rw [hp]
    have hnew : ∀ u ∈ all, u.1 < ym.1 + 1 := fun u hu => by have := ht.1 u hu; omega
    have hO : One (all ++ [(ym.1 + 1, s)]) := fun a ha b hb hab => by
      rw [List.mem_append, List.mem_singleton] at ha hb
      rcases ha with ha | rfl
      · rcases hb with hb | rfl
        · exact h.one a ha b hb hab
        · have := hnew a ha; simp only at hab; omega
      · rcases hb with hb | rfl
        · have := hnew b hb; simp only at hab; omega
        · rfl
    have htop : ∀ u ∈ all ++ [(ym.1 + 1, s)], u.1 ≤ ym.1 + 1 := fun u hu => by
      rw [List.mem_append, List.mem_singleton] at hu
      rcases hu with hu | rfl
      · have := hnew u hu; omega
      · exact Int.le_refl _
    have hmem : ∀ u ∈ dShort (m ++ [(ym.1 + 1, s)]), u ∈ all ++ [(ym.1 + 1, s)] := fun u hu => by
      have hu2 : u ∈ m ++ [(ym.1 + 1, s)] := by
        revert hu
        show u ∈ dShort _ → _
        unfold dShort
        split
        · exact id
        · exact List.mem_of_mem_eraseIdx
      rw [List.mem_append, List.mem_singleton] at hu2 ⊢
      exact hu2.imp (h.ms u) id
    rw [hh] at g3
    have hgx := (sCheck_parts h.mok).2.2 xm hxm
    have hnot1 : decide ((dShort (m ++ [(ym.1 + 1, s)])).length = 1) = false := by simp; omega
    refine ⟨xm, (ym.1 + 1, s), g3, g2, rfl, g1, hmem, by simp only; omega, htop, hO, fun _ => ?_, ?_⟩
    · exact ⟨hO, List.mem_append_left _ (h.ms xm hxm), by simp, htop, hgx.2.2, hs, (dM_le (y := (ym.1 + 1, s)) hgx.2.2 hs h1 h2).1, by simp only; omega, by simp only; omega⟩
    · rw [hnot1]
      exact ⟨h.ck, hsub _, h.hd xm hh, h.pi.more _, by have := h.pn ym hl; simp only; omega, fun _ h => absurd h (by omega), fun _ h => absurd h (by omega), fun ho => by cases ho⟩
/-- Behind a round, if parts were lost. -/
theorem so_lost {i k : Nat} {z : Int} {m c all : List (Int × Scr)} {p : Int × Int × List (List UInt8)} {x y : Int × Scr} {ll : Bool} (hl : all.length ≤ i + 1) (hx : m.head? = some x) (hy : m.getLast? = some y) (hm : sCheck m = true) (hms : ∀ u ∈ m, u ∈ all ++ [y]) (hyi : y.1 ≤ (i : Int) + 1) (htop : ∀ u ∈ all ++ [y], u.1 ≤ y.1) (hO : One (all ++ [y]))
    (h : SJ (all ++ [y]) z x y ll (decide (m.length = 1)) k c p) : SO (i + 1) z m c (all ++ [y]) p :=
  ⟨hm, h.ck, hO, hms, h.sub, fun w hw => by rw [hy] at hw; injection hw with hw; subst hw; exact ⟨htop, by omega⟩, fun w hw => by rw [hx] at hw; injection hw with hw; subst hw; exact h.hd,
    fun h1 => by rw [hy]; exact h.eq1 (decide_eq_true h1), h.pi, fun w hw => by rw [hy] at hw; injection hw with hw; subst hw; exact h.pn, by simp only [List.length_append, List.length_cons, List.length_nil]; omega⟩
/-- Behind a round, if none was lost: the client's last screen is the server's, and the server is told. -/
theorem so_full {i k : Nat} {z : Int} {m c all : List (Int × Scr)} {p : Int × Int × List (List UInt8)} {x y : Int × Scr} (hl : all.length ≤ i + 1) (hx : m.head? = some x) (hy : m.getLast? = some y) (hm : sCheck m = true) (hms : ∀ u ∈ m, u ∈ all ++ [y]) (hyi : y.1 ≤ (i : Int) + 1) (htop : ∀ u ∈ all ++ [y], u.1 ≤ y.1) (hO : One (all ++ [y]))
    (h : SJ (all ++ [y]) z x y true (decide (m.length = 1)) k c p) (hk : m.length ≠ 1 → k = dM x y z) : c.getLast? = some y ∧ SO (i + 1) z (dAcked m y.1) c (all ++ [y]) p := by
  have hcl : c.getLast? = some y := by
    by_cases h1 : m.length = 1
    · exact h.eq1 (decide_eq_true h1)
    · have hk2 := hk h1
      obtain ⟨u, hu, he⟩ := h.fin rfl (by rw [hk2]; unfold dM cMany; omega) hk2
      rw [hu, hO u (h.sub u (List.mem_of_getLast? hu)) y (by simp) he]
  refine ⟨hcl, ?_⟩
  obtain ⟨h0, h8, -⟩ := sCheck_parts hm
  have hyj : m[m.length - 1]'(by omega) = y := by
    rw [List.getLast?_eq_getElem?, List.getElem?_eq_getElem (by omega)] at hy
    injection hy
  obtain ⟨a1, a2, a3, a4⟩ := acked_at (j := m.length - 1) hm (by omega)
  rw [hyj] at a1 a3
  rw [hy] at a4
  rw [a1]
  have hyc : y ∈ c := List.mem_of_getLast? hcl
  exact ⟨a2, h.ck, hO, fun u hu => hms u (List.mem_of_mem_drop hu), h.sub, fun w hw => by rw [a4] at hw; injection hw with hw; subst hw; exact ⟨htop, by omega⟩, fun w hw => by rw [a3] at hw; injection hw with hw; subst hw; exact hyc,
    fun _ => by rw [a4]; exact hcl, h.pi, fun w hw => by rw [a4] at hw; injection hw with hw; subst hw; exact h.pn, by simp only [List.length_append, List.length_cons, List.length_nil]; omega⟩
theorem so_start {z : Int} {s : Scr} (hs : gOk s = true) : SO 0 z [(0, s)] [(0, s)] [(0, s)] (0, 0, []) := by
  have hck : sCheck [(0, s)] = true := sCheck_mk (by simp [sOkF, hs]) (by simp) (by simp)
  refine ⟨hck, hck, fun a ha b hb _ => ?_, fun u hu => hu, fun u hu => hu, fun w hw => ?_, fun w hw => ?_, fun _ => rfl, .inl rfl, fun w hw => ?_, by simp⟩
  · rw [List.mem_singleton] at ha hb
    rw [ha, hb]
  · injection hw with hw
    subst hw
    exact ⟨fun u hu => by rw [List.mem_singleton] at hu; subst hu; exact Int.le_refl _, Int.le_refl _⟩
  · injection hw with hw
    subst hw
    simp
  · injection hw with hw
    subst hw
    exact Int.le_refl _
end Go.Proofs.Ytfeeincglijmjaa
