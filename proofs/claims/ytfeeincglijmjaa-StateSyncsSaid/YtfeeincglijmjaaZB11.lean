/- Texts of this seat, one behind the other. -/
import Derived.Test.YtfeeincglijmjaaEH
import Derived.Test.YtfeeincglijmjaaZB4
import Derived.Test.YtfeeincglijmjaaZB2
namespace Go.Proofs.Ytfeeincglijmjaa
/- Plain laws of Apply: what is told of two screens gives the second one back. -/
section
open Go.RowKit
set_option linter.unusedVariables false
set_option linter.unusedSimpArgs false

theorem nNext_cons {x m : Int} {L : List Int} (h : x ≤ m) : nNext (x :: L) false m = (x, L, false) := by
  simp only [nNext, Bool.false_eq_true, if_false]
  rw [if_neg (by omega)]
theorem nPut_cNums : ∀ (l o : List (Int × Int)) (q : Nat) (rest : List Int), q + l.length ≤ o.length → (∀ c ∈ l, c.1 ≤ 4611686018427387903 ∧ c.2 ≤ 4611686018427387903) →
    nPut l.length o q (cNums l ++ rest) false = (o.take q ++ l ++ o.drop (q + l.length), q + l.length, rest, false)
  | [], o, q, rest, h, hc => by simp [nPut, cNums]
  | c :: l, o, q, rest, h, hc => by
    have h1 := hc c (List.mem_cons_self ..)
    simp only [List.length_cons] at h ⊢
    simp only [cNums, List.cons_append, nPut]
    rw [nNext_cons h1.1]
    simp only
    rw [nNext_cons h1.2]
    simp only
    rw [nPut_cNums l (o.set q (c.1, c.2)) (q + 1) rest (by rw [List.length_set]; omega) (fun d hd => hc d (List.mem_cons_of_mem _ hd))]
    have hq : q < o.length := by omega
    have e1 : (o.set q (c.1, c.2)).take (q + 1) = o.take q ++ [c] := by
      rw [List.set_eq_take_append_cons_drop, if_pos hq, List.take_append]
      simp only [List.length_take, Nat.min_eq_left (Nat.le_of_lt hq)]
      rw [List.take_of_length_le (by simp; omega), show q + 1 - q = 1 from by omega]
      rfl
    have e2 : (o.set q (c.1, c.2)).drop (q + 1 + l.length) = o.drop (q + (l.length + 1)) := by
      rw [List.drop_set_of_lt (by omega), show q + 1 + l.length = q + (l.length + 1) from by omega]
    rw [e1, e2, show q + 1 + l.length = q + (l.length + 1) from by omega]
    simp
theorem take_same {f t : List (Int × Int)} {p s : Nat} (hl : f.length = t.length) (hs : s ≤ dSame (f.drop p) (t.drop p)) : (f.drop p).take s = (t.drop p).take s := by
  apply List.ext_getElem?
  intro j
  by_cases hj : j < s
  · rw [List.getElem?_take_of_lt hj, List.getElem?_take_of_lt hj]
    exact dSame_lt _ _ j (by omega)
  · rw [List.getElem?_eq_none (by rw [List.length_take]; omega), List.getElem?_eq_none (by rw [List.length_take]; omega)]
theorem nRows_rows {f t : List (Int × Int)} (hl : f.length = t.length) (hn : t.length ≤ 1000000) (hc : ∀ c ∈ t, c.1 ≤ 4611686018427387903 ∧ c.2 ≤ 4611686018427387903) (rest : List Int) :
    ∀ (k p : Nat), t.length - p ≤ k → p ≤ t.length → nRows (dRows p (f.drop p) (t.drop p)).length (t.take p ++ f.drop p) p (rNums (dRows p (f.drop p) (t.drop p)) ++ rest) false = (t, rest, false) := by
  intro k
  induction k with
  | zero =>
    intro p hk hp
    obtain rfl : p = t.length := by omega
    rw [dRows_end]
    simp only [List.length_nil, rNums, List.nil_append, nRows, List.take_length]
    rw [List.drop_of_length_le (by omega), List.append_nil]
  | succ k ih =>
    intro p hk hp
    have hle1 := dSame_le (f.drop p) (t.drop p)
    rw [List.length_drop] at hle1
    obtain ⟨s, hs⟩ : ∃ s, s = dSame (f.drop p) (t.drop p) := ⟨_, rfl⟩
    have hle2 := dDiff_le ((f.drop p).drop s) ((t.drop p).drop s)
    simp only [List.length_drop] at hle2
    obtain ⟨m, hm⟩ : ∃ m, m = dDiff ((f.drop p).drop s) ((t.drop p).drop s) := ⟨_, rfl⟩
    rw [← hs] at hle1
    rw [← hm] at hle2
    have htk := take_same hl (Nat.le_of_eq hs)
    by_cases h0 : m = 0
    · have hps : p + s = t.length := by
        apply Classical.byContradiction
        intro hh
        have h1 := dSame_end (f.drop p) (t.drop p) (by simp [hl]) (by rw [← hs, List.length_drop]; omega)
        rw [← hs, List.getElem?_drop, List.getElem?_drop] at h1
        have h2 : ∀ (a b : List (Int × Int)), dDiff a b = 0 → a.length = b.length → 0 < a.length → a[0]? = b[0]? := by
          intro a b
          cases a with
          | nil => intro _ _ h; simp at h
          | cons x a =>
            cases b with
            | nil => intro _ h; simp at h
            | cons y b =>
              intro h _ _
              simp only [dDiff] at h
              split at h
              · rename_i e; simp [e]
              · omega
        have h3 := h2 _ _ (hm.symm.trans h0) (by simp only [List.length_drop]; omega) (by simp only [List.length_drop]; omega)
        rw [List.getElem?_drop, List.getElem?_drop, List.getElem?_drop, List.getElem?_drop] at h3
        exact h1 (by simpa using h3)
      have e : dRows p (f.drop p) (t.drop p) = [] := dRows_none (by rw [← hs, ← hm]; exact h0)
      rw [e]
      simp only [List.length_nil, rNums, List.nil_append, nRows]
      have e2 : f.drop p = t.drop p := by
        rw [← List.take_of_length_le (l := f.drop p) (i := s) (by rw [List.length_drop]; omega), htk, List.take_of_length_le (by rw [List.length_drop]; omega)]
      rw [e2, List.take_append_drop]
    · have e := dRows_some (p := p) hs.symm hm.symm h0
      rw [List.drop_drop, List.drop_drop, List.drop_drop] at e
      have hpm : p + (s + m) = p + s + m := by omega
      rw [hpm] at e
      obtain ⟨l, hlq⟩ : ∃ l, l = (t.drop (p + s)).take m := ⟨_, rfl⟩
      have hll : l.length = m := by rw [hlq, List.length_take, List.length_drop]; omega
      rw [← hlq] at e
      rw [e]
      simp only [List.length_cons, rNums, hll, List.cons_append, nRows]
      have hol : (t.take p ++ f.drop p).length = t.length := by rw [List.length_append, List.length_take, List.length_drop]; omega
      have e2 : nTwo (t.take p ++ f.drop p).length p ((s : Int) :: (m : Int) :: (cNums l ++ rNums (dRows (p + s + m) (f.drop (p + s + m)) (t.drop (p + s + m))) ++ rest)) false = (p + s, m, cNums l ++ rNums (dRows (p + s + m) (f.drop (p + s + m)) (t.drop (p + s + m))) ++ rest, false) := by
        unfold nTwo
        rw [hol, nNext_cons (by omega)]
        simp only [Int.toNat_natCast]
        rw [nNext_cons (by omega)]
        simp only [Int.toNat_natCast]
      rw [e2]
      simp only
      have hcl : ∀ c ∈ l, c.1 ≤ 4611686018427387903 ∧ c.2 ≤ 4611686018427387903 := fun c h => hc c (by rw [hlq] at h; exact List.mem_of_mem_drop (List.mem_of_mem_take h))
      have e3 := nPut_cNums l (t.take p ++ f.drop p) (p + s) (rNums (dRows (p + s + m) (f.drop (p + s + m)) (t.drop (p + s + m))) ++ rest) (by rw [hol, hll]; omega) hcl
      rw [hll, ← List.append_assoc] at e3
      rw [e3]
      simp only
      have e4 : (t.take p ++ f.drop p).take (p + s) ++ l ++ (t.take p ++ f.drop p).drop (p + s + m) = t.take (p + s + m) ++ f.drop (p + s + m) := by
        have lp : (t.take p).length = p := by rw [List.length_take]; omega
        have a1 : (t.take p ++ f.drop p).take (p + s) = t.take (p + s) := by
          rw [List.take_append, lp, List.take_of_length_le (by omega), show p + s - p = s from by omega, htk]
          rw [List.take_add]
        have a2 : (t.take p ++ f.drop p).drop (p + s + m) = f.drop (p + s + m) := by
          rw [List.drop_append, lp, List.drop_of_length_le (by omega), List.nil_append, List.drop_drop]
          congr 1
          omega
        rw [a1, a2, hlq, ← List.take_add]
      rw [e4]
      exact ih (p + s + m) (by omega) (by omega)
theorem nChg_chg {f t : List (Int × Int)} (hl : f.length = t.length) (hn : t.length ≤ 1000000) (hc : ∀ c ∈ t, c.1 ≤ 4611686018427387903 ∧ c.2 ≤ 4611686018427387903) (rest : List Int) : nChg f (dChg f t ++ rest) false = (t, rest, false) := by
  have hs := (rows_size (t.length + 1) 0 f t).1
  unfold nChg dChg
  have hle : (((dRows 0 f t).length : Nat) : Int) ≤ f.length := by
    have : (dRows 0 f t).length ≤ t.length := hs
    omega
  rw [List.cons_append, nNext_cons hle]
  simp only [Int.toNat_natCast]
  have := nRows_rows hl hn hc rest t.length 0 (by omega) (Nat.zero_le _)
  simpa using this
end

/- Plain laws on the document's changed places: what is told of two screens gives the second one back. No program in sight. -/
section
open Go.RowKit
set_option linter.unusedVariables false
set_option linter.unusedSimpArgs false

theorem wPut_cNums : ∀ (l o : List (Int × Int)) (q : Nat) (rest : List Int), q + l.length ≤ o.length →
    wPut l.length o q (cNums l ++ rest) = o.take q ++ l ++ o.drop (q + l.length)
  | [], o, q, rest, h => by simp [wPut, cNums]
  | c :: l, o, q, rest, h => by
    simp only [List.length_cons] at h ⊢
    simp only [cNums, List.cons_append, wPut]
    rw [wPut_cNums l (o.set q (c.1, c.2)) (q + 1) rest (by rw [List.length_set]; omega)]
    have hq : q < o.length := by omega
    have e1 : (o.set q (c.1, c.2)).take (q + 1) = o.take q ++ [c] := by
      rw [List.set_eq_take_append_cons_drop, if_pos hq, List.take_append]
      simp only [List.length_take, Nat.min_eq_left (Nat.le_of_lt hq)]
      rw [List.take_of_length_le (by simp; omega), show q + 1 - q = 1 from by omega]
      rfl
    have e2 : (o.set q (c.1, c.2)).drop (q + 1 + l.length) = o.drop (q + (l.length + 1)) := by
      rw [List.drop_set_of_lt (by omega), show q + 1 + l.length = q + (l.length + 1) from by omega]
    rw [e1, e2]
    simp
theorem rRows_rows {f t : List (Int × Int)} (hl : f.length = t.length) (rest : List Int) :
    ∀ (k p : Nat), t.length - p ≤ k → p ≤ t.length → rRows (dRows p (f.drop p) (t.drop p)).length (t.take p ++ f.drop p) p (rNums (dRows p (f.drop p) (t.drop p)) ++ rest) = (t, rest) := by
  intro k
  induction k with
  | zero =>
    intro p hk hp
    obtain rfl : p = t.length := by omega
    rw [dRows_end]
    simp only [List.length_nil, rNums, List.nil_append, rRows, List.take_length]
    rw [List.drop_of_length_le (by omega), List.append_nil]
  | succ k ih =>
    intro p hk hp
    have hle1 := dSame_le (f.drop p) (t.drop p)
    rw [List.length_drop] at hle1
    obtain ⟨s, hs⟩ : ∃ s, s = dSame (f.drop p) (t.drop p) := ⟨_, rfl⟩
    have hle2 := dDiff_le ((f.drop p).drop s) ((t.drop p).drop s)
    simp only [List.length_drop] at hle2
    obtain ⟨m, hm⟩ : ∃ m, m = dDiff ((f.drop p).drop s) ((t.drop p).drop s) := ⟨_, rfl⟩
    rw [← hs] at hle1
    rw [← hm] at hle2
    have htk := take_same hl (Nat.le_of_eq hs)
    by_cases h0 : m = 0
    · have hps : p + s = t.length := by
        apply Classical.byContradiction
        intro hh
        have h1 := dSame_end (f.drop p) (t.drop p) (by simp [hl]) (by rw [← hs, List.length_drop]; omega)
        rw [← hs, List.getElem?_drop, List.getElem?_drop] at h1
        have h2 : ∀ (a b : List (Int × Int)), dDiff a b = 0 → a.length = b.length → 0 < a.length → a[0]? = b[0]? := by
          intro a b
          cases a with
          | nil => intro _ _ h; simp at h
          | cons x a =>
            cases b with
            | nil => intro _ h; simp at h
            | cons y b =>
              intro h _ _
              simp only [dDiff] at h
              split at h
              · rename_i e; simp [e]
              · omega
        have h3 := h2 _ _ (hm.symm.trans h0) (by simp only [List.length_drop]; omega) (by simp only [List.length_drop]; omega)
        rw [List.getElem?_drop, List.getElem?_drop, List.getElem?_drop, List.getElem?_drop] at h3
        exact h1 (by simpa using h3)
      have e : dRows p (f.drop p) (t.drop p) = [] := dRows_none (by rw [← hs, ← hm]; exact h0)
      rw [e]
      simp only [List.length_nil, rNums, List.nil_append, rRows]
      have e2 : f.drop p = t.drop p := by
        rw [← List.take_of_length_le (l := f.drop p) (i := s) (by rw [List.length_drop]; omega), htk, List.take_of_length_le (by rw [List.length_drop]; omega)]
      rw [e2, List.take_append_drop]
    · have e := dRows_some (p := p) hs.symm hm.symm h0
      rw [List.drop_drop, List.drop_drop, List.drop_drop] at e
      have hpm : p + (s + m) = p + s + m := by omega
      rw [hpm] at e
      obtain ⟨l, hlq⟩ : ∃ l, l = (t.drop (p + s)).take m := ⟨_, rfl⟩
      have hll : l.length = m := by rw [hlq, List.length_take, List.length_drop]; omega
      rw [← hlq] at e
      rw [e]
      have hol : (t.take p ++ f.drop p).length = t.length := by rw [List.length_append, List.length_take, List.length_drop]; omega
      have hcl := cNums_length l
      simp only [List.length_cons, rNums, hll, List.cons_append, rRows]
      rw [hol, if_neg (by omega), if_neg (by simp only [List.length_append]; omega)]
      simp only [Int.toNat_natCast]
      have e3 := wPut_cNums l (t.take p ++ f.drop p) (p + s) (rNums (dRows (p + s + m) (f.drop (p + s + m)) (t.drop (p + s + m))) ++ rest) (by rw [hol, hll]; omega)
      rw [hll] at e3
      have e5 : ∀ X : List Int, (cNums l ++ X).drop (2 * m) = X := fun X => by
        rw [List.drop_append, hcl, hll, List.drop_of_length_le (by rw [hcl, hll]; omega), Nat.sub_self, List.drop_zero, List.nil_append]
      rw [List.append_assoc, e3, e5]
      have e4 : (t.take p ++ f.drop p).take (p + s) ++ l ++ (t.take p ++ f.drop p).drop (p + s + m) = t.take (p + s + m) ++ f.drop (p + s + m) := by
        have lp : (t.take p).length = p := by rw [List.length_take]; omega
        have a1 : (t.take p ++ f.drop p).take (p + s) = t.take (p + s) := by
          rw [List.take_append, lp, List.take_of_length_le (by omega), show p + s - p = s from by omega, htk]
          rw [List.take_add]
        have a2 : (t.take p ++ f.drop p).drop (p + s + m) = f.drop (p + s + m) := by
          rw [List.drop_append, lp, List.drop_of_length_le (by omega), List.nil_append, List.drop_drop]
          congr 1
          omega
        rw [a1, a2, hlq, ← List.take_add]
      rw [e4]
      exact ih (p + s + m) (by omega) (by omega)
theorem rChg_chg {f t : List (Int × Int)} (hl : f.length = t.length) (rest : List Int) : rChg f (dChg f t ++ rest) = (t, rest) := by
  unfold dChg
  rw [List.cons_append, rChg]
  simp only [Int.toNat_natCast]
  have := rRows_rows hl rest t.length 0 (by omega) (Nat.zero_le _)
  simpa using this
end

/- Apply, whole: its contract. -/
section
open Go.RowKit
set_option linter.unusedVariables false
set_option linter.unusedSimpArgs false

theorem oBit_dBits (b : Scr) : oBit (dBits b) 0 = b.wr ∧ oBit (dBits b) 1 = b.au ∧ oBit (dBits b) 2 = b.hi ∧ oBit (dBits b) 3 = b.al := by
  unfold dBits
  cases b.wr <;> cases b.au <;> cases b.hi <;> cases b.al <;> decide
theorem cOk_bnd {l : List (Int × Int)} (h : ∀ c ∈ l, cOk c = true) : ∀ c ∈ l, c.1 ≤ 4611686018427387903 ∧ c.2 ≤ 4611686018427387903 := by
  intro c hc
  have := h c hc
  simp only [cOk, Bool.and_eq_true, inB_true] at this
  omega
/-- What stands behind a head. -/
def dBody (s b : Scr) : List Int := dChg (dGround s b.W b.H).1 b.cs ++ (if b.al then dChg (dGround s b.W b.H).2 b.ms else [])
theorem diff_back {s b : Scr} {d : List UInt8} (h : dDiff' s b = (d, 0)) : gOk s = true ∧ gOk b = true ∧ vAll d = (b.W :: b.H :: b.X :: b.Y :: b.At :: b.Tp :: b.Bt :: dBits b :: b.s0 :: b.s1 :: b.s2 :: dBody s b, 0) ∧ d = vCat (dNums s b) ∧
    nChg (dGround s b.W b.H).1 (dBody s b) false = (b.cs, (if b.al then dChg (dGround s b.W b.H).2 b.ms else []), false) ∧ (b.al = true → nChg (dGround s b.W b.H).2 (if b.al then dChg (dGround s b.W b.H).2 b.ms else []) false = (b.ms, [], false)) ∧ (b.al = false → b.ms = []) := by
  unfold dDiff' at h
  split at h
  rotate_left
  · injection h with h1 h2
    exact absurd h2 (by decide)
  rename_i hg
  simp only [Bool.and_eq_true] at hg
  obtain ⟨h1, h2⟩ := hg
  have hb := nums_bnd (s := s) h2
  have hok : ∀ x ∈ dNums s b, vSize x ≠ 0 := fun x hx => by have := hb x hx; exact vSize_ne (by omega) (by omega)
  have hv : vJoin (dNums s b) = (vCat (dNums s b), 0) := by unfold vJoin; rw [if_pos hok]
  rw [hv] at h
  injection h with h3 _
  have hg := ground_len h1 h2
  obtain ⟨b1, b2, b3, _⟩ := gOk_parts h2
  have ar := area b1
  have hm := gOk_ms h2
  have hc := b2.1
  refine ⟨h1, h2, ?_, h3.symm, ?_, fun hal => ?_, fun hal => ?_⟩
  · rw [← h3, vAll_vCat hok]
    unfold dNums dBody dHead
    simp
  · exact nChg_chg hg.1 (by omega) (cOk_bnd b2.2) _
  · rw [if_pos hal]
    have := nChg_chg (hg.2 hal) (by omega) (cOk_bnd b3.2) []
    rwa [List.append_nil] at this
  · have := b3.1
    rw [hal] at this
    simp only [Bool.false_eq_true, if_false] at this
    exact List.eq_nil_of_length_eq_zero (by omega)
theorem scr_eta (b : Scr) : b = ⟨b.W, b.H, b.X, b.Y, b.At, b.Tp, b.Bt, b.wr, b.au, b.hi, b.al, b.s0, b.s1, b.s2, b.cs, b.ms⟩ := rfl
/-- What numbers make of a screen; whether they are lost. -/
def aTry (s : Scr) (x0 x1 x2 x3 x4 x5 x6 x7 x8 x9 x10 : Int) (r : List Int) : Scr × Bool :=
  if oBit x7 3 then
    (⟨x0, x1, x2, x3, x4, x5, x6, oBit x7 0, oBit x7 1, oBit x7 2, true, x8, x9, x10, (nChg (dGround s x0 x1).1 r false).1, (nChg (dGround s x0 x1).2 (nChg (dGround s x0 x1).1 r false).2.1 (nChg (dGround s x0 x1).1 r false).2.2).1⟩, (nChg (dGround s x0 x1).2 (nChg (dGround s x0 x1).1 r false).2.1 (nChg (dGround s x0 x1).1 r false).2.2).2.2)
  else (⟨x0, x1, x2, x3, x4, x5, x6, oBit x7 0, oBit x7 1, oBit x7 2, false, x8, x9, x10, (nChg (dGround s x0 x1).1 r false).1, []⟩, (nChg (dGround s x0 x1).1 r false).2.2)
theorem try_back {s b : Scr} {d : List UInt8} (h : dDiff' s b = (d, 0)) : aTry s b.W b.H b.X b.Y b.At b.Tp b.Bt (dBits b) b.s0 b.s1 b.s2 (dBody s b) = (b, false) := by
  obtain ⟨h1, h2, h3, h4, h5, h6, h7⟩ := diff_back h
  obtain ⟨q0, q1, q2, q3⟩ := oBit_dBits b
  unfold aTry
  rw [q0, q1, q2, q3, h5]
  cases hal : b.al
  · simp only [Bool.false_eq_true, if_false]
    rw [Prod.mk.injEq]
    refine ⟨?_, rfl⟩
    conv => rhs; rw [scr_eta b, hal, h7 hal]
  · have h8 := h6 hal
    rw [hal, if_pos rfl] at h8
    simp only [if_true]
    rw [h8]
    rw [Prod.mk.injEq]
    refine ⟨?_, rfl⟩
    conv => rhs; rw [scr_eta b, hal]
theorem diff_unique {s b b' : Scr} {d : List UInt8} (h : dDiff' s b = (d, 0)) (h' : dDiff' s b' = (d, 0)) : b = b' := by
  have e1 := (diff_back h).2.2.1
  have e2 := (diff_back h').2.2.1
  rw [e1] at e2
  simp only [Prod.mk.injEq, List.cons.injEq, and_true] at e2
  obtain ⟨r0, r1, r2, r3, r4, r5, r6, r7, r8, r9, r10, r11⟩ := e2
  have t1 := try_back h
  have t2 := try_back h'
  rw [r0, r1, r2, r3, r4, r5, r6, r7, r8, r9, r10, r11, t2] at t1
  injection t1 with t1 _
  exact t1.symm
open Classical in
/-- Apply. -/
noncomputable def dApply (s : Scr) (d : List UInt8) : Scr × Int :=
  if gOk s = true then (if h : ∃ b, dDiff' s b = (d, 0) then (Classical.choose h, 0) else (noScr, 190)) else (noScr, 170)
theorem apply_yes {s b : Scr} {d : List UInt8} (h : dDiff' s b = (d, 0)) : dApply s d = (b, 0) := by
  have hx : ∃ b, dDiff' s b = (d, 0) := ⟨b, h⟩
  unfold dApply
  rw [if_pos (diff_back h).1, dif_pos hx, diff_unique (Classical.choose_spec hx) h]
theorem apply_not {s : Scr} {d : List UInt8} (h1 : gOk s = true) (h : ¬ ∃ b, dDiff' s b = (d, 0)) : dApply s d = (noScr, 190) := by
  unfold dApply
  rw [if_pos h1, dif_neg h]
theorem vCat_ge : ∀ (l : List Int), (∀ x ∈ l, vSize x ≠ 0) → l.length ≤ (vCat l).length
  | [], _ => Nat.zero_le _
  | x :: l, h => by
    have h1 := h x (List.mem_cons_self ..)
    have h2 := vCat_ge l (fun y hy => h y (List.mem_cons_of_mem _ hy))
    have h3 := vBytes_length x
    unfold vCat at *
    rw [List.flatMap_cons, List.length_append, List.length_cons]
    omega
theorem apply_any {lo up lo2 up2 : Nat} {s : Scr} {C M D : Option Addr} {cc cm dc : Nat} {d : List UInt8} {w : World} (hat : ScrAt w lo up s C cc M cm) (hup : up ≤ w.heap.size) (hd : Sl w lo2 up2 1 D d.length dc (byteCells d)) (hup2 : up2 ≤ w.heap.size) (hl : s.Len) (hdl : d.length ≤ 1000000) :
    Calls Try.prog 27 #[.agg (s.v C cc M cm), .slice D d.length dc] w (RetAp w (dApply s d).1 (dApply s d).2) := by
  cases hg : gOk s
  · have e : dApply s d = (noScr, 170) := by unfold dApply; rw [if_neg (by rw [hg]; decide)]
    rw [e]
    exact apply_bad hat hup hd hup2 hl hg
  · by_cases hsh : (vAll d).2 ≠ 0 ∨ (vAll d).1.length < 11 ∨ 64 < max ((vAll d).1.getD 0 0) ((vAll d).1.getD 1 0)
    · have e : dApply s d = (noScr, 190) := by
        refine apply_not hg (fun ⟨b, hb⟩ => ?_)
        obtain ⟨h1, h2, h3, _⟩ := diff_back hb
        obtain ⟨b1, _⟩ := gOk_parts h2
        rw [h3] at hsh
        simp at hsh
        omega
      rw [e]
      exact apply_short hat hup hd hup2 hl hg hdl hsh
    · rcases vAll_back d with ⟨hv0, hvj⟩ | hv0
      rotate_left
      · rw [hv0] at hsh
        simp at hsh
      · obtain ⟨⟨L, en⟩, hq⟩ : ∃ q, q = vAll d := ⟨_, rfl⟩
        rw [← hq] at hsh hv0 hvj
        simp only at hsh hv0 hvj
        subst hv0
        have hall : ∀ x ∈ L, vSize x ≠ 0 := by
          unfold vJoin at hvj
          split at hvj
          · assumption
          · injection hvj with _ h
            exact absurd h (by decide)
        have hlen : L.length ≤ d.length := by
          unfold vJoin at hvj
          rw [if_pos hall] at hvj
          injection hvj with h _
          rw [← h]
          exact vCat_ge L hall
        match L, hsh, hlen, hall, hq with
        | x0 :: x1 :: x2 :: x3 :: x4 :: x5 :: x6 :: x7 :: x8 :: x9 :: x10 :: r, hsh, hlen, hall, hq =>
          have hb : ∀ x ∈ x0 :: x1 :: x2 :: x3 :: x4 :: x5 :: x6 :: x7 :: x8 :: x9 :: x10 :: r, 0 ≤ x ∧ x < 4611686018427387904 := fun x hx => vSize_range (hall x hx)
          have hx0 := hb x0 (by simp)
          have hx1 := hb x1 (by simp)
          have hx7 := hb x7 (by simp)
          have hr : ∀ x ∈ r, 0 ≤ x := fun x hx => (hb x (by simp [hx])).1
          simp only [List.length_cons] at hlen
          have hmx : ¬ (64 < max x0 x1) := fun h => hsh (.inr (.inr (by simpa using h)))
          obtain ⟨b1, b2, b3, _⟩ := gOk_parts hg
          have ar := area b1
          have hcl : s.cs.length ≤ 4096 ∧ s.ms.length ≤ 4096 := ⟨by have := b2.1; omega, gOk_ms hg⟩
          have hfin : ∀ (T : Scr) (lost B : Bool), aTry s x0 x1 x2 x3 x4 x5 x6 x7 x8 x9 x10 r = (T, lost) → (lost || !decide ((dDiff' s T).2 = 0) || !decide ((dDiff' s T).1 = d)) = B → (bif B then noScr else T) = (dApply s d).1 ∧ (bif B then (190 : Int) else 0) = (dApply s d).2 := by
            intro T lost B ht hB
            cases B
            · simp only [Bool.or_eq_false_iff, Bool.not_eq_false', decide_eq_true_eq] at hB
              obtain ⟨⟨_, h1⟩, h2⟩ := hB
              have e := apply_yes (s := s) (b := T) (d := d) (Prod.ext h2 h1)
              rw [e]
              exact ⟨rfl, rfl⟩
            · have e : dApply s d = (noScr, 190) := by
                refine apply_not hg (fun ⟨b, hb⟩ => ?_)
                have h3 := (diff_back hb).2.2.1
                rw [← hq] at h3
                simp only [Prod.mk.injEq, List.cons.injEq, and_true] at h3
                obtain ⟨r0, r1, r2, r3, r4, r5, r6, r7, r8, r9, r10, r11⟩ := h3
                have t := try_back hb
                rw [← r0, ← r1, ← r2, ← r3, ← r4, ← r5, ← r6, ← r7, ← r8, ← r9, ← r10, ← r11, ht] at t
                injection t with t1 t2
                subst t1 t2
                rw [hb] at hB
                simp at hB
              rw [e]
              exact ⟨rfl, rfl⟩
          cases hal : oBit x7 3
          · obtain ⟨e1, e2⟩ := hfin _ _ _ (by unfold aTry; rw [hal]) rfl
            rw [← e1, ← e2]
            exact apply_f hat hup hd hup2 hl hg hcl hdl hq.symm ⟨hx0.1, by omega⟩ ⟨hx1.1, by omega⟩ hr (by omega) ⟨hx7.1, by omega⟩ hal rfl rfl
          · obtain ⟨e1, e2⟩ := hfin _ _ _ (by unfold aTry; rw [hal]) rfl
            rw [← e1, ← e2]
            exact apply_t hat hup hd hup2 hl hg hcl hdl hq.symm ⟨hx0.1, by omega⟩ ⟨hx1.1, by omega⟩ hr (by omega) ⟨hx7.1, by omega⟩ hal rfl rfl
        | [], hsh, _, _, _ => exact absurd (.inr (.inl (by simp))) hsh
        | [_], hsh, _, _, _ => exact absurd (.inr (.inl (by simp))) hsh
        | [_, _], hsh, _, _, _ => exact absurd (.inr (.inl (by simp))) hsh
        | [_, _, _], hsh, _, _, _ => exact absurd (.inr (.inl (by simp))) hsh
        | [_, _, _, _], hsh, _, _, _ => exact absurd (.inr (.inl (by simp))) hsh
        | [_, _, _, _, _], hsh, _, _, _ => exact absurd (.inr (.inl (by simp))) hsh
        | [_, _, _, _, _, _], hsh, _, _, _ => exact absurd (.inr (.inl (by simp))) hsh
        | [_, _, _, _, _, _, _], hsh, _, _, _ => exact absurd (.inr (.inl (by simp))) hsh
        | [_, _, _, _, _, _, _, _], hsh, _, _, _ => exact absurd (.inr (.inl (by simp))) hsh
        | [_, _, _, _, _, _, _, _, _], hsh, _, _, _ => exact absurd (.inr (.inl (by simp))) hsh
        | [_, _, _, _, _, _, _, _, _, _], hsh, _, _, _ => exact absurd (.inr (.inl (by simp))) hsh
end
end Go.Proofs.Ytfeeincglijmjaa
