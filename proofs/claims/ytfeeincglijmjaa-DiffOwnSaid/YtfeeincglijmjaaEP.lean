/- Plain laws of Apply: what is told of two screens gives the second one back. -/
import Derived.Test.YtfeeincglijmjaaEH
import Derived.Test.YtfeeincglijmjaaVP
namespace Go.Proofs.Ytfeeincglijmjaa
open Go.RowKit
set_option linter.unusedVariables false
set_option linter.unusedSimpArgs false

theorem nNext_cons {x m : Int} {L : List Int} (h : x ≤ m) : nNext (x :: L) false m = (x, L, false) := by
  simp only [nNext, Bool.false_eq_true, if_false]
  rw [if_neg (by omega)]
theorem nPut_cNums : ∀ (l o : List (Int × Int)) (q : Nat) (rest : List Int), q + l.length ≤ o.length → (∀ c ∈ l, c.1 ≤ 4611686018427387903 ∧ c.2 ≤ 4611686018427387903) →
    nPut l.length o q (cNums l ++ rest) false = (o.take q ++ l ++ o.drop (q + l.length), q + l.length, rest, false)
  | [], o, q, rest, h, hc => by simp [nPut, cNums]
  | c :: l, o, q, rest, h, hc => by
    have h1 := hc c (List.mem_cons_self ..)
    simp only [List.length_cons] at h ⊢
    simp only [cNums, List.cons_append, nPut]
    rw [nNext_cons h1.1]
    simp only
    rw [nNext_cons h1.2]
    simp only
    rw [nPut_cNums l (o.set q (c.1, c.2)) (q + 1) rest (by rw [List.length_set]; omega) (fun d hd => hc d (List.mem_cons_of_mem _ hd))]
    have hq : q < o.length := by omega
    have e1 : (o.set q (c.1, c.2)).take (q + 1) = o.take q ++ [c] := by
      rw [List.set_eq_take_append_cons_drop, if_pos hq, List.take_append]
      simp only [List.length_take, Nat.min_eq_left (Nat.le_of_lt hq)]
      rw [List.take_of_length_le (by simp; omega), show q + 1 - q = 1 from by omega]
      rfl
    have e2 : (o.set q (c.1, c.2)).drop (q + 1 + l.length) = o.drop (q + (l.length + 1)) := by
      rw [List.drop_set_of_lt (by omega), show q + 1 + l.length = q + (l.length + 1) from by omega]
    rw [e1, e2, show q + 1 + l.length = q + (l.length + 1) from by omega]
    simp
theorem take_same {f t : List (Int × Int)} {p s : Nat} (hl : f.length = t.length) (hs : s ≤ dSame (f.drop p) (t.drop p)) : (f.drop p).take s = (t.drop p).take s := by
  apply List.ext_getElem?
  intro j
  by_cases hj : j < s
  · rw [List.getElem?_take_of_lt hj, List.getElem?_take_of_lt hj]
    exact dSame_lt _ _ j (by omega)
  · rw [List.getElem?_eq_none (by rw [List.length_take]; omega), List.getElem?_eq_none (by rw [List.length_take]; omega)]
theorem nRows_rows {f t : List (Int × Int)} (hl : f.length = t.length) (hn : t.length ≤ 1000000) (hc : ∀ c ∈ t, c.1 ≤ 4611686018427387903 ∧ c.2 ≤ 4611686018427387903) (rest : List Int) :
    ∀ (k p : Nat), t.length - p ≤ k → p ≤ t.length → nRows (dRows p (f.drop p) (t.drop p)).length (t.take p ++ f.drop p) p (rNums (dRows p (f.drop p) (t.drop p)) ++ rest) false = (t, rest, false) := by
  intro k
  induction k with
  | zero =>
    intro p hk hp
    obtain rfl : p = t.length := by omega
    rw [dRows_end]
    simp only [List.length_nil, rNums, List.nil_append, nRows, List.take_length]
    rw [List.drop_of_length_le (by omega), List.append_nil]
  | succ k ih =>
    intro p hk hp
    have hle1 := dSame_le (f.drop p) (t.drop p)
    rw [List.length_drop] at hle1
    obtain ⟨s, hs⟩ : ∃ s, s = dSame (f.drop p) (t.drop p) := ⟨_, rfl⟩
    have hle2 := dDiff_le ((f.drop p).drop s) ((t.drop p).drop s)
    simp only [List.length_drop] at hle2
    obtain ⟨m, hm⟩ : ∃ m, m = dDiff ((f.drop p).drop s) ((t.drop p).drop s) := ⟨_, rfl⟩
    rw [← hs] at hle1
    rw [← hm] at hle2
    have htk := take_same hl (Nat.le_of_eq hs)
    by_cases h0 : m = 0
    · have hps : p + s = t.length := by
        apply Classical.byContradiction
        intro hh
        have h1 := dSame_end (f.drop p) (t.drop p) (by simp [hl]) (by rw [← hs, List.length_drop]; omega)
        rw [← hs, List.getElem?_drop, List.getElem?_drop] at h1
        have h2 : ∀ (a b : List (Int × Int)), dDiff a b = 0 → a.length = b.length → 0 < a.length → a[0]? = b[0]? := by
          intro a b
          cases a with
          | nil => intro _ _ h; simp at h
          | cons x a =>
            cases b with
            | nil => intro _ h; simp at h
            | cons y b =>
              intro h _ _
              simp only [dDiff] at h
              split at h
              · rename_i e; simp [e]
              · omega
        have h3 := h2 _ _ (hm.symm.trans h0) (by simp only [List.length_drop]; omega) (by simp only [List.length_drop]; omega)
        rw [List.getElem?_drop, List.getElem?_drop, List.getElem?_drop, List.getElem?_drop] at h3
        exact h1 (by simpa using h3)
      have e : dRows p (f.drop p) (t.drop p) = [] := dRows_none (by rw [← hs, ← hm]; exact h0)
      rw [e]
      simp only [List.length_nil, rNums, List.nil_append, nRows]
      have e2 : f.drop p = t.drop p := by
        rw [← List.take_of_length_le (l := f.drop p) (i := s) (by rw [List.length_drop]; omega), htk, List.take_of_length_le (by rw [List.length_drop]; omega)]
      rw [e2, List.take_append_drop]
    · have e := dRows_some (p := p) hs.symm hm.symm h0
      rw [List.drop_drop, List.drop_drop, List.drop_drop] at e
      have hpm : p + (s + m) = p + s + m := by omega
      rw [hpm] at e
      obtain ⟨l, hlq⟩ : ∃ l, l = (t.drop (p + s)).take m := ⟨_, rfl⟩
      have hll : l.length = m := by rw [hlq, List.length_take, List.length_drop]; omega
      rw [← hlq] at e
      rw [e]
      simp only [List.length_cons, rNums, hll, List.cons_append, nRows]
      have hol : (t.take p ++ f.drop p).length = t.length := by rw [List.length_append, List.length_take, List.length_drop]; omega
      have e2 : nTwo (t.take p ++ f.drop p).length p ((s : Int) :: (m : Int) :: (cNums l ++ rNums (dRows (p + s + m) (f.drop (p + s + m)) (t.drop (p + s + m))) ++ rest)) false = (p + s, m, cNums l ++ rNums (dRows (p + s + m) (f.drop (p + s + m)) (t.drop (p + s + m))) ++ rest, false) := by
        unfold nTwo
        rw [hol, nNext_cons (by omega)]
        simp only [Int.toNat_natCast]
        rw [nNext_cons (by omega)]
        simp only [Int.toNat_natCast]
      rw [e2]
      simp only
      have hcl : ∀ c ∈ l, c.1 ≤ 4611686018427387903 ∧ c.2 ≤ 4611686018427387903 := fun c h => hc c (by rw [hlq] at h; exact List.mem_of_mem_drop (List.mem_of_mem_take h))
      have e3 := nPut_cNums l (t.take p ++ f.drop p) (p + s) (rNums (dRows (p + s + m) (f.drop (p + s + m)) (t.drop (p + s + m))) ++ rest) (by rw [hol, hll]; omega) hcl
      rw [hll, ← List.append_assoc] at e3
      rw [e3]
      simp only
      have e4 : (t.take p ++ f.drop p).take (p + s) ++ l ++ (t.take p ++ f.drop p).drop (p + s + m) = t.take (p + s + m) ++ f.drop (p + s + m) := by
        have lp : (t.take p).length = p := by rw [List.length_take]; omega
        have a1 : (t.take p ++ f.drop p).take (p + s) = t.take (p + s) := by
          rw [List.take_append, lp, List.take_of_length_le (by omega), show p + s - p = s from by omega, htk]
          rw [List.take_add]
        have a2 : (t.take p ++ f.drop p).drop (p + s + m) = f.drop (p + s + m) := by
          rw [List.drop_append, lp, List.drop_of_length_le (by omega), List.nil_append, List.drop_drop]
          congr 1
          omega
        rw [a1, a2, hlq, ← List.take_add]
      rw [e4]
      exact ih (p + s + m) (by omega) (by omega)
theorem nChg_chg {f t : List (Int × Int)} (hl : f.length = t.length) (hn : t.length ≤ 1000000) (hc : ∀ c ∈ t, c.1 ≤ 4611686018427387903 ∧ c.2 ≤ 4611686018427387903) (rest : List Int) : nChg f (dChg f t ++ rest) false = (t, rest, false) := by
  have hs := (rows_size (t.length + 1) 0 f t).1
  unfold nChg dChg
  have hle : (((dRows 0 f t).length : Nat) : Int) ≤ f.length := by
    have : (dRows 0 f t).length ≤ t.length := hs
    omega
  rw [List.cons_append, nNext_cons hle]
  simp only [Int.toNat_natCast]
  have := nRows_rows hl hn hc rest t.length 0 (by omega) (Nat.zero_le _)
  simpa using this
end Go.Proofs.Ytfeeincglijmjaa
