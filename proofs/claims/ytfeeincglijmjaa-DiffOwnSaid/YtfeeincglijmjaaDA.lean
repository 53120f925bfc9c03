/- Plain laws on rows of places that are not as others. No program in sight. -/
import Derived.Test.YtfeeincglijmjaaVG
namespace Go.Proofs.Ytfeeincglijmjaa
set_option linter.unusedVariables false
set_option linter.unusedSimpArgs false

/-- How many are alike ahead; how many are not. -/
def dSame : List (Int × Int) → List (Int × Int) → Nat
  | a :: f, b :: t => if a = b then dSame f t + 1 else 0
  | _, _ => 0
def dDiff : List (Int × Int) → List (Int × Int) → Nat
  | a :: f, b :: t => if a = b then 0 else dDiff f t + 1
  | _, _ => 0
theorem dSame_le : ∀ f t : List (Int × Int), dSame f t ≤ t.length
  | [], t => by simp [dSame]
  | a :: f, [] => by simp [dSame]
  | a :: f, b :: t => by
    have := dSame_le f t
    simp only [dSame]
    split <;> simp <;> omega
theorem dDiff_le : ∀ f t : List (Int × Int), dDiff f t ≤ t.length
  | [], t => by simp [dDiff]
  | a :: f, [] => by simp [dDiff]
  | a :: f, b :: t => by
    have := dDiff_le f t
    simp only [dDiff]
    split <;> simp <;> omega
theorem dSame_lt : ∀ (f t : List (Int × Int)) (j : Nat), j < dSame f t → f[j]? = t[j]?
  | [], t, j, h => by simp [dSame] at h
  | a :: f, [], j, h => by simp [dSame] at h
  | a :: f, b :: t, j, h => by
    simp only [dSame] at h
    split at h
    · rename_i hab
      subst hab
      cases j with
      | zero => rfl
      | succ j => exact dSame_lt f t j (by omega)
    · omega
theorem dDiff_lt : ∀ (f t : List (Int × Int)) (j : Nat), j < dDiff f t → f[j]? ≠ t[j]?
  | [], t, j, h => by simp [dDiff] at h
  | a :: f, [], j, h => by simp [dDiff] at h
  | a :: f, b :: t, j, h => by
    simp only [dDiff] at h
    split at h
    · omega
    · rename_i hab
      cases j with
      | zero => simpa using hab
      | succ j => exact dDiff_lt f t j (by omega)
theorem dSame_end : ∀ (f t : List (Int × Int)), f.length = t.length → dSame f t < t.length → f[dSame f t]? ≠ t[dSame f t]?
  | [], t, hl, h => by simp at hl; rw [← hl] at h; omega
  | a :: f, [], hl, h => by simp at hl
  | a :: f, b :: t, hl, h => by
    simp only [dSame] at h ⊢
    split
    · rename_i hab
      rw [if_pos hab] at h
      exact dSame_end f t (by simpa using hl) (by simpa using h)
    · rename_i hab
      simpa using hab
theorem dDiff_end : ∀ (f t : List (Int × Int)), f.length = t.length → dDiff f t < t.length → f[dDiff f t]? = t[dDiff f t]?
  | [], t, hl, h => by simp at hl; rw [← hl] at h; omega
  | a :: f, [], hl, h => by simp at hl
  | a :: f, b :: t, hl, h => by
    simp only [dDiff] at h ⊢
    split
    · rename_i hab
      subst hab
      rfl
    · rename_i hab
      rw [if_neg hab] at h
      exact dDiff_end f t (by simpa using hl) (by simpa using h)

/-- A row: how many are alike ahead, where it begins, and its places. -/
structure Rw where
  s : Nat
  a : Nat
  l : List (Int × Int)
def dRowsF : Nat → Nat → List (Int × Int) → List (Int × Int) → List Rw
  | 0, _, _, _ => []
  | k + 1, p, f, t => if dDiff (f.drop (dSame f t)) (t.drop (dSame f t)) = 0 then [] else
      ⟨dSame f t, p + dSame f t, (t.drop (dSame f t)).take (dDiff (f.drop (dSame f t)) (t.drop (dSame f t)))⟩ ::
        dRowsF k (p + dSame f t + dDiff (f.drop (dSame f t)) (t.drop (dSame f t))) (f.drop (dSame f t + dDiff (f.drop (dSame f t)) (t.drop (dSame f t)))) (t.drop (dSame f t + dDiff (f.drop (dSame f t)) (t.drop (dSame f t))))
/-- The rows of places that are not as others, from a place on. -/
def dRows (p : Nat) (f t : List (Int × Int)) : List Rw := dRowsF (t.length + 1) p f t
theorem dRowsF_fuel : ∀ (k k' p : Nat) (f t : List (Int × Int)), t.length < k → t.length < k' → dRowsF k p f t = dRowsF k' p f t
  | 0, _, _, _, _, h, _ => absurd h (by omega)
  | _ + 1, 0, _, _, _, _, h => absurd h (by omega)
  | k + 1, k' + 1, p, f, t, h, h' => by
    simp only [dRowsF]
    by_cases h0 : dDiff (f.drop (dSame f t)) (t.drop (dSame f t)) = 0
    · rw [if_pos h0, if_pos h0]
    · rw [if_neg h0, if_neg h0]
      have h1 := dDiff_le (f.drop (dSame f t)) (t.drop (dSame f t))
      rw [List.length_drop] at h1
      congr 1
      exact dRowsF_fuel k k' _ _ _ (by rw [List.length_drop]; omega) (by rw [List.length_drop]; omega)
theorem dRows_none {p : Nat} {f t : List (Int × Int)} (h : dDiff (f.drop (dSame f t)) (t.drop (dSame f t)) = 0) : dRows p f t = [] := by
  unfold dRows
  rw [dRowsF, if_pos h]
theorem dRows_some {p s n : Nat} {f t : List (Int × Int)} (hs : dSame f t = s) (hn : dDiff (f.drop s) (t.drop s) = n) (h : n ≠ 0) :
    dRows p f t = ⟨s, p + s, (t.drop s).take n⟩ :: dRows (p + s + n) (f.drop (s + n)) (t.drop (s + n)) := by
  subst hs
  subst hn
  have h1 := dDiff_le (f.drop (dSame f t)) (t.drop (dSame f t))
  rw [List.length_drop] at h1
  unfold dRows
  rw [dRowsF, if_neg h]
  congr 1
  exact dRowsF_fuel _ _ _ _ _ (by rw [List.length_drop]; omega) (by rw [List.length_drop]; omega)
/-- Of one place after another: what a step finds. -/
theorem same_step {f t : List (Int × Int)} {p j : Nat} (hl : f.length = t.length) (hj : j ≤ dSame (f.drop p) (t.drop p)) (hp : p ≤ t.length) :
    (∀ (h1 : p + j < f.length) (h2 : p + j < t.length), f[p + j] = t[p + j] → j + 1 ≤ dSame (f.drop p) (t.drop p)) ∧
    (∀ (h1 : p + j < f.length) (h2 : p + j < t.length), f[p + j] ≠ t[p + j] → j = dSame (f.drop p) (t.drop p)) ∧
    (t.length ≤ p + j → j = dSame (f.drop p) (t.drop p)) := by
  have hle := dSame_le (f.drop p) (t.drop p)
  rw [List.length_drop] at hle
  refine ⟨fun h1 h2 he => ?_, fun h1 h2 he => ?_, fun h => by omega⟩
  · apply Classical.byContradiction
    intro hh
    have hj2 : j = dSame (f.drop p) (t.drop p) := by omega
    have := dSame_end (f.drop p) (t.drop p) (by simp [hl]) (by rw [← hj2, List.length_drop]; omega)
    rw [← hj2, List.getElem?_drop, List.getElem?_drop, List.getElem?_eq_getElem h1, List.getElem?_eq_getElem h2, he] at this
    exact this rfl
  · apply Classical.byContradiction
    intro hh
    have := dSame_lt (f.drop p) (t.drop p) j (by omega)
    rw [List.getElem?_drop, List.getElem?_drop, List.getElem?_eq_getElem h1, List.getElem?_eq_getElem h2] at this
    injection this with this
    exact he this
theorem diff_step {f t : List (Int × Int)} {p j : Nat} (hl : f.length = t.length) (hj : j ≤ dDiff (f.drop p) (t.drop p)) (hp : p ≤ t.length) :
    (∀ (h1 : p + j < f.length) (h2 : p + j < t.length), f[p + j] ≠ t[p + j] → j + 1 ≤ dDiff (f.drop p) (t.drop p)) ∧
    (∀ (h1 : p + j < f.length) (h2 : p + j < t.length), f[p + j] = t[p + j] → j = dDiff (f.drop p) (t.drop p)) ∧
    (t.length ≤ p + j → j = dDiff (f.drop p) (t.drop p)) := by
  have hle := dDiff_le (f.drop p) (t.drop p)
  rw [List.length_drop] at hle
  refine ⟨fun h1 h2 he => ?_, fun h1 h2 he => ?_, fun h => by omega⟩
  · apply Classical.byContradiction
    intro hh
    have hj2 : j = dDiff (f.drop p) (t.drop p) := by omega
    have := dDiff_end (f.drop p) (t.drop p) (by simp [hl]) (by rw [← hj2, List.length_drop]; omega)
    rw [← hj2, List.getElem?_drop, List.getElem?_drop, List.getElem?_eq_getElem h1, List.getElem?_eq_getElem h2] at this
    injection this with this
    exact he this
  · apply Classical.byContradiction
    intro hh
    have := dDiff_lt (f.drop p) (t.drop p) j (by omega)
    rw [List.getElem?_drop, List.getElem?_drop, List.getElem?_eq_getElem h1, List.getElem?_eq_getElem h2, he] at this
    exact this rfl
/-- The numbers of places. -/
def cNums : List (Int × Int) → List Int
  | [] => []
  | c :: l => c.1 :: c.2 :: cNums l
/-- The numbers of rows. -/
def rNums : List Rw → List Int
  | [] => []
  | r :: l => (r.s : Int) :: (r.l.length : Int) :: (cNums r.l ++ rNums l)
/-- The numbers of places that are not as others. -/
def dChg (f t : List (Int × Int)) : List Int := ((dRows 0 f t).length : Int) :: rNums (dRows 0 f t)
theorem cNums_append : ∀ l m : List (Int × Int), cNums (l ++ m) = cNums l ++ cNums m
  | [], m => rfl
  | c :: l, m => by simp [cNums, cNums_append l m]
theorem cNums_length : ∀ l : List (Int × Int), (cNums l).length = 2 * l.length
  | [] => rfl
  | c :: l => by simp [cNums, cNums_length l]; omega
theorem rNums_append : ∀ l m : List Rw, rNums (l ++ m) = rNums l ++ rNums m
  | [], m => rfl
  | r :: l, m => by simp [rNums, rNums_append l m]
/-- How many numbers there are. -/
theorem rows_size : ∀ (k p : Nat) (f t : List (Int × Int)), (dRowsF k p f t).length ≤ t.length ∧ (rNums (dRowsF k p f t)).length ≤ 4 * t.length
  | 0, p, f, t => by simp [dRowsF, rNums]
  | k + 1, p, f, t => by
    simp only [dRowsF]
    have h1 := dDiff_le (f.drop (dSame f t)) (t.drop (dSame f t))
    rw [List.length_drop] at h1
    generalize dDiff (f.drop (dSame f t)) (t.drop (dSame f t)) = n at *
    by_cases h0 : n = 0
    · rw [if_pos h0]; simp [rNums]
    · rw [if_neg h0]
      obtain ⟨h2, h3⟩ := rows_size k (p + dSame f t + n) (f.drop (dSame f t + n)) (t.drop (dSame f t + n))
      rw [List.length_drop] at h2 h3
      have h4 := cNums_length ((t.drop (dSame f t)).take n)
      rw [List.length_take, List.length_drop] at h4
      simp only [rNums, List.length_cons, List.length_append, h4]
      omega
theorem chg_size (f t : List (Int × Int)) : (dChg f t).length ≤ 4 * t.length + 1 := by
  have := (rows_size (t.length + 1) 0 f t).2
  simp only [dChg, dRows, List.length_cons]
  omega
/-- The next row, and what is left behind it. -/
theorem rows_next {f t : List (Int × Int)} {p i i2 k : Nat} {M : List Rw} (hM : M.drop k = dRows p (f.drop p) (t.drop p)) (hpi : p ≤ i) (hi : i - p = dSame (f.drop p) (t.drop p)) (hii : i < i2) (hd : i2 - i = dDiff (f.drop i) (t.drop i)) :
    k < M.length ∧ M[k]? = some ⟨i - p, i, (t.drop i).take (i2 - i)⟩ ∧ M.drop (k + 1) = dRows i2 (f.drop i2) (t.drop i2) := by
  have e1 : dDiff ((f.drop p).drop (i - p)) ((t.drop p).drop (i - p)) = i2 - i := by
    rw [List.drop_drop, List.drop_drop, show p + (i - p) = i from by omega]
    exact hd.symm
  have h := dRows_some (p := p) (s := i - p) (n := i2 - i) hi.symm e1 (by omega)
  rw [List.drop_drop, List.drop_drop, List.drop_drop, show p + (i - p) = i from by omega, show i + (i2 - i) = i2 from by omega, show p + (i - p + (i2 - i)) = i2 from by omega] at h
  rw [h] at hM
  have hk : k < M.length := by
    apply Classical.byContradiction
    intro hh
    rw [List.drop_of_length_le (by omega)] at hM
    cases hM
  refine ⟨hk, ?_, ?_⟩
  · have := List.getElem?_drop (xs := M) (i := k) (j := 0)
    rw [hM] at this
    simpa using this.symm
  · rw [← List.drop_drop, hM]
    rfl
theorem rows_last {f t : List (Int × Int)} {p k : Nat} {M : List Rw} (hM : M.drop k = dRows p (f.drop p) (t.drop p)) (hp : p ≤ t.length) (hi : t.length - p = dSame (f.drop p) (t.drop p)) : M.length ≤ k ∧ M.drop k = [] := by
  have e : dRows p (f.drop p) (t.drop p) = [] := by
    apply dRows_none
    rw [← hi, List.drop_drop, show p + (t.length - p) = t.length from by omega, List.drop_drop, show p + (t.length - p) = t.length from by omega, List.drop_of_length_le (Nat.le_refl t.length)]
    generalize f.drop t.length = g
    cases g <;> rfl
  rw [e] at hM
  refine ⟨?_, hM⟩
  have := congrArg List.length hM
  rw [List.length_drop] at this
  simp at this
  omega
theorem dRows_end (p : Nat) (f t : List (Int × Int)) : dRows p (f.drop t.length) (t.drop t.length) = [] := by
  apply dRows_none
  rw [List.drop_of_length_le (Nat.le_refl t.length)]
  generalize f.drop t.length = g
  cases g <;> rfl
end Go.Proofs.Ytfeeincglijmjaa
