/- Texts of this seat, one behind the other. -/
import Derived.Test.YtfeeincglijmjaaZB1
import Derived.Deep.LoopGhost
import Derived.Deep.QuietTactic
import Derived.Deep.DeepCutAuto
import Derived.RegionTactic
import Derived.Outline
namespace Go.Proofs.Ytfeeincglijmjaa
/- Plain laws on rows of places that are not as others. No program in sight. -/
section
set_option linter.unusedVariables false
set_option linter.unusedSimpArgs false

/-- How many are alike ahead; how many are not. -/
def dSame : List (Int × Int) → List (Int × Int) → Nat
  | a :: f, b :: t => if a = b then dSame f t + 1 else 0
  | _, _ => 0
def dDiff : List (Int × Int) → List (Int × Int) → Nat
  | a :: f, b :: t => if a = b then 0 else dDiff f t + 1
  | _, _ => 0
theorem dSame_le : ∀ f t : List (Int × Int), dSame f t ≤ t.length
  | [], t => by simp [dSame]
  | a :: f, [] => by simp [dSame]
  | a :: f, b :: t => by
    have := dSame_le f t
    simp only [dSame]
    split <;> simp <;> omega
theorem dDiff_le : ∀ f t : List (Int × Int), dDiff f t ≤ t.length
  | [], t => by simp [dDiff]
  | a :: f, [] => by simp [dDiff]
  | a :: f, b :: t => by
    have := dDiff_le f t
    simp only [dDiff]
    split <;> simp <;> omega
theorem dSame_lt : ∀ (f t : List (Int × Int)) (j : Nat), j < dSame f t → f[j]? = t[j]?
  | [], t, j, h => by simp [dSame] at h
  | a :: f, [], j, h => by simp [dSame] at h
  | a :: f, b :: t, j, h => by
    simp only [dSame] at h
    split at h
    · rename_i hab
      subst hab
      cases j with
      | zero => rfl
      | succ j => exact dSame_lt f t j (by omega)
    · omega
theorem dDiff_lt : ∀ (f t : List (Int × Int)) (j : Nat), j < dDiff f t → f[j]? ≠ t[j]?
  | [], t, j, h => by simp [dDiff] at h
  | a :: f, [], j, h => by simp [dDiff] at h
  | a :: f, b :: t, j, h => by
    simp only [dDiff] at h
    split at h
    · omega
    · rename_i hab
      cases j with
      | zero => simpa using hab
      | succ j => exact dDiff_lt f t j (by omega)
theorem dSame_end : ∀ (f t : List (Int × Int)), f.length = t.length → dSame f t < t.length → f[dSame f t]? ≠ t[dSame f t]?
  | [], t, hl, h => by simp at hl; rw [← hl] at h; omega
  | a :: f, [], hl, h => by simp at hl
  | a :: f, b :: t, hl, h => by
    simp only [dSame] at h ⊢
    split
    · rename_i hab
      rw [if_pos hab] at h
      exact dSame_end f t (by simpa using hl) (by simpa using h)
    · rename_i hab
      simpa using hab
theorem dDiff_end : ∀ (f t : List (Int × Int)), f.length = t.length → dDiff f t < t.length → f[dDiff f t]? = t[dDiff f t]?
  | [], t, hl, h => by simp at hl; rw [← hl] at h; omega
  | a :: f, [], hl, h => by simp at hl
  | a :: f, b :: t, hl, h => by
    simp only [dDiff] at h ⊢
    split
    · rename_i hab
      subst hab
      rfl
    · rename_i hab
      rw [if_neg hab] at h
      exact dDiff_end f t (by simpa using hl) (by simpa using h)

/-- A row: how many are alike ahead, where it begins, and its places. -/
structure Rw where
  s : Nat
  a : Nat
  l : List (Int × Int)
def dRowsF : Nat → Nat → List (Int × Int) → List (Int × Int) → List Rw
  | 0, _, _, _ => []
  | k + 1, p, f, t => if dDiff (f.drop (dSame f t)) (t.drop (dSame f t)) = 0 then [] else
      ⟨dSame f t, p + dSame f t, (t.drop (dSame f t)).take (dDiff (f.drop (dSame f t)) (t.drop (dSame f t)))⟩ ::
        dRowsF k (p + dSame f t + dDiff (f.drop (dSame f t)) (t.drop (dSame f t))) (f.drop (dSame f t + dDiff (f.drop (dSame f t)) (t.drop (dSame f t)))) (t.drop (dSame f t + dDiff (f.drop (dSame f t)) (t.drop (dSame f t))))
/-- The rows of places that are not as others, from a place on. -/
def dRows (p : Nat) (f t : List (Int × Int)) : List Rw := dRowsF (t.length + 1) p f t
theorem dRowsF_fuel : ∀ (k k' p : Nat) (f t : List (Int × Int)), t.length < k → t.length < k' → dRowsF k p f t = dRowsF k' p f t
  | 0, _, _, _, _, h, _ => absurd h (by omega)
  | _ + 1, 0, _, _, _, _, h => absurd h (by omega)
  | k + 1, k' + 1, p, f, t, h, h' => by
    simp only [dRowsF]
    by_cases h0 : dDiff (f.drop (dSame f t)) (t.drop (dSame f t)) = 0
    · rw [if_pos h0, if_pos h0]
    · rw [if_neg h0, if_neg h0]
      have h1 := dDiff_le (f.drop (dSame f t)) (t.drop (dSame f t))
      rw [List.length_drop] at h1
      congr 1
      exact dRowsF_fuel k k' _ _ _ (by rw [List.length_drop]; omega) (by rw [List.length_drop]; omega)
theorem dRows_none {p : Nat} {f t : List (Int × Int)} (h : dDiff (f.drop (dSame f t)) (t.drop (dSame f t)) = 0) : dRows p f t = [] := by
  unfold dRows
  rw [dRowsF, if_pos h]
theorem dRows_some {p s n : Nat} {f t : List (Int × Int)} (hs : dSame f t = s) (hn : dDiff (f.drop s) (t.drop s) = n) (h : n ≠ 0) :
    dRows p f t = ⟨s, p + s, (t.drop s).take n⟩ :: dRows (p + s + n) (f.drop (s + n)) (t.drop (s + n)) := by
  subst hs
  subst hn
  have h1 := dDiff_le (f.drop (dSame f t)) (t.drop (dSame f t))
  rw [List.length_drop] at h1
  unfold dRows
  rw [dRowsF, if_neg h]
  congr 1
  exact dRowsF_fuel _ _ _ _ _ (by rw [List.length_drop]; omega) (by rw [List.length_drop]; omega)
/-- Of one place after another: what a step finds. -/
theorem same_step {f t : List (Int × Int)} {p j : Nat} (hl : f.length = t.length) (hj : j ≤ dSame (f.drop p) (t.drop p)) (hp : p ≤ t.length) :
    (∀ (h1 : p + j < f.length) (h2 : p + j < t.length), f[p + j] = t[p + j] → j + 1 ≤ dSame (f.drop p) (t.drop p)) ∧
    (∀ (h1 : p + j < f.length) (h2 : p + j < t.length), f[p + j] ≠ t[p + j] → j = dSame (f.drop p) (t.drop p)) ∧
    (t.length ≤ p + j → j = dSame (f.drop p) (t.drop p)) := by
  have hle := dSame_le (f.drop p) (t.drop p)
  rw [List.length_drop] at hle
  refine ⟨fun h1 h2 he => ?_, fun h1 h2 he => ?_, fun h => by omega⟩
  · apply Classical.byContradiction
    intro hh
    have hj2 : j = dSame (f.drop p) (t.drop p) := by omega
    have := dSame_end (f.drop p) (t.drop p) (by simp [hl]) (by rw [← hj2, List.length_drop]; omega)
    rw [← hj2, List.getElem?_drop, List.getElem?_drop, List.getElem?_eq_getElem h1, List.getElem?_eq_getElem h2, he] at this
    exact this rfl
  · apply Classical.byContradiction
    intro hh
    have := dSame_lt (f.drop p) (t.drop p) j (by omega)
    rw [List.getElem?_drop, List.getElem?_drop, List.getElem?_eq_getElem h1, List.getElem?_eq_getElem h2] at this
    injection this with this
    exact he this
theorem diff_step {f t : List (Int × Int)} {p j : Nat} (hl : f.length = t.length) (hj : j ≤ dDiff (f.drop p) (t.drop p)) (hp : p ≤ t.length) :
    (∀ (h1 : p + j < f.length) (h2 : p + j < t.length), f[p + j] ≠ t[p + j] → j + 1 ≤ dDiff (f.drop p) (t.drop p)) ∧
    (∀ (h1 : p + j < f.length) (h2 : p + j < t.length), f[p + j] = t[p + j] → j = dDiff (f.drop p) (t.drop p)) ∧
    (t.length ≤ p + j → j = dDiff (f.drop p) (t.drop p)) := by
  have hle := dDiff_le (f.drop p) (t.drop p)
  rw [List.length_drop] at hle
  refine ⟨fun h1 h2 he => ?_, fun h1 h2 he => ?_, fun h => by omega⟩
  · apply Classical.byContradiction
    intro hh
    have hj2 : j = dDiff (f.drop p) (t.drop p) := by omega
    have := dDiff_end (f.drop p) (t.drop p) (by simp [hl]) (by rw [← hj2, List.length_drop]; omega)
    rw [← hj2, List.getElem?_drop, List.getElem?_drop, List.getElem?_eq_getElem h1, List.getElem?_eq_getElem h2] at this
    injection this with this
    exact he this
  · apply Classical.byContradiction
    intro hh
    have := dDiff_lt (f.drop p) (t.drop p) j (by omega)
    rw [List.getElem?_drop, List.getElem?_drop, List.getElem?_eq_getElem h1, List.getElem?_eq_getElem h2, he] at this
    exact this rfl
/-- The numbers of places. -/
def cNums : List (Int × Int) → List Int
  | [] => []
  | c :: l => c.1 :: c.2 :: cNums l
/-- The numbers of rows. -/
def rNums : List Rw → List Int
  | [] => []
  | r :: l => (r.s : Int) :: (r.l.length : Int) :: (cNums r.l ++ rNums l)
/-- The numbers of places that are not as others. -/
def dChg (f t : List (Int × Int)) : List Int := ((dRows 0 f t).length : Int) :: rNums (dRows 0 f t)
theorem cNums_append : ∀ l m : List (Int × Int), cNums (l ++ m) = cNums l ++ cNums m
  | [], m => rfl
  | c :: l, m => by simp [cNums, cNums_append l m]
theorem cNums_length : ∀ l : List (Int × Int), (cNums l).length = 2 * l.length
  | [] => rfl
  | c :: l => by simp [cNums, cNums_length l]; omega
theorem rNums_append : ∀ l m : List Rw, rNums (l ++ m) = rNums l ++ rNums m
  | [], m => rfl
  | r :: l, m => by simp [rNums, rNums_append l m]
/-- How many numbers there are. -/
theorem rows_size : ∀ (k p : Nat) (f t : List (Int × Int)), (dRowsF k p f t).length ≤ t.length ∧ (rNums (dRowsF k p f t)).length ≤ 4 * t.length
  | 0, p, f, t => by simp [dRowsF, rNums]
  | k + 1, p, f, t => by
    simp only [dRowsF]
    have h1 := dDiff_le (f.drop (dSame f t)) (t.drop (dSame f t))
    rw [List.length_drop] at h1
    generalize dDiff (f.drop (dSame f t)) (t.drop (dSame f t)) = n at *
    by_cases h0 : n = 0
    · rw [if_pos h0]; simp [rNums]
    · rw [if_neg h0]
      obtain ⟨h2, h3⟩ := rows_size k (p + dSame f t + n) (f.drop (dSame f t + n)) (t.drop (dSame f t + n))
      rw [List.length_drop] at h2 h3
      have h4 := cNums_length ((t.drop (dSame f t)).take n)
      rw [List.length_take, List.length_drop] at h4
      simp only [rNums, List.length_cons, List.length_append, h4]
      omega
theorem chg_size (f t : List (Int × Int)) : (dChg f t).length ≤ 4 * t.length + 1 := by
  have := (rows_size (t.length + 1) 0 f t).2
  simp only [dChg, dRows, List.length_cons]
  omega
/-- The next row, and what is left behind it. -/
theorem rows_next {f t : List (Int × Int)} {p i i2 k : Nat} {M : List Rw} (hM : M.drop k = dRows p (f.drop p) (t.drop p)) (hpi : p ≤ i) (hi : i - p = dSame (f.drop p) (t.drop p)) (hii : i < i2) (hd : i2 - i = dDiff (f.drop i) (t.drop i)) :
    k < M.length ∧ M[k]? = some ⟨i - p, i, (t.drop i).take (i2 - i)⟩ ∧ M.drop (k + 1) = dRows i2 (f.drop i2) (t.drop i2) := by
  have e1 : dDiff ((f.drop p).drop (i - p)) ((t.drop p).drop (i - p)) = i2 - i := by
    rw [List.drop_drop, List.drop_drop, show p + (i - p) = i from by omega]
    exact hd.symm
  have h := dRows_some (p := p) (s := i - p) (n := i2 - i) hi.symm e1 (by omega)
  rw [List.drop_drop, List.drop_drop, List.drop_drop, show p + (i - p) = i from by omega, show i + (i2 - i) = i2 from by omega, show p + (i - p + (i2 - i)) = i2 from by omega] at h
  rw [h] at hM
  have hk : k < M.length := by
    apply Classical.byContradiction
    intro hh
    rw [List.drop_of_length_le (by omega)] at hM
    cases hM
  refine ⟨hk, ?_, ?_⟩
  · have := List.getElem?_drop (xs := M) (i := k) (j := 0)
    rw [hM] at this
    simpa using this.symm
  · rw [← List.drop_drop, hM]
    rfl
theorem rows_last {f t : List (Int × Int)} {p k : Nat} {M : List Rw} (hM : M.drop k = dRows p (f.drop p) (t.drop p)) (hp : p ≤ t.length) (hi : t.length - p = dSame (f.drop p) (t.drop p)) : M.length ≤ k ∧ M.drop k = [] := by
  have e : dRows p (f.drop p) (t.drop p) = [] := by
    apply dRows_none
    rw [← hi, List.drop_drop, show p + (t.length - p) = t.length from by omega, List.drop_drop, show p + (t.length - p) = t.length from by omega, List.drop_of_length_le (Nat.le_refl t.length)]
    generalize f.drop t.length = g
    cases g <;> rfl
  rw [e] at hM
  refine ⟨?_, hM⟩
  have := congrArg List.length hM
  rw [List.length_drop] at this
  simp at this
  omega
theorem dRows_end (p : Nat) (f t : List (Int × Int)) : dRows p (f.drop t.length) (t.drop t.length) = [] := by
  apply dRows_none
  rw [List.drop_of_length_le (Nat.le_refl t.length)]
  generalize f.drop t.length = g
  cases g <;> rfl
end

/- The document's changed places: what it computes. No program in sight. -/
section
set_option linter.unusedVariables false
set_option linter.unusedSimpArgs false

/-- Places written one behind the other, of numbers that are there. -/
def wPut : Nat → List (Int × Int) → Nat → List Int → List (Int × Int)
  | 0, o, _, _ => o
  | k + 1, o, q, x :: y :: r => wPut k (o.set q (x, y)) (q + 1) r
  | _ + 1, o, _, _ => o
theorem wPut_len : ∀ (k : Nat) (o : List (Int × Int)) (q : Nat) (L : List Int), (wPut k o q L).length = o.length
  | 0, _, _, _ => rfl
  | k + 1, o, q, x :: y :: r => by rw [wPut, wPut_len k, List.length_set]
  | _ + 1, _, _, [] => rfl
  | _ + 1, _, _, [_] => rfl
/-- Rows of places. -/
def rRows : Nat → List (Int × Int) → Nat → List Int → List (Int × Int) × List Int
  | 0, o, _, L => (o, L)
  | k + 1, o, p, x :: n :: r => if (o.length : Int) - (p : Int) < x then (o, []) else if (o.length : Int) - ((p : Int) + x) < n ∨ (r.length : Int) < 2 * n then (o, []) else
      rRows k (wPut n.toNat o (p + x.toNat) r) (p + x.toNat + n.toNat) (r.drop (2 * n.toNat))
  | _ + 1, o, _, L => (o, L)
theorem rRows_len : ∀ (k : Nat) (o : List (Int × Int)) (p : Nat) (L : List Int), (rRows k o p L).1.length = o.length ∧ (rRows k o p L).2.length ≤ L.length
  | 0, _, _, _ => ⟨rfl, Nat.le_refl _⟩
  | k + 1, o, p, x :: n :: r => by
    rw [rRows]
    split
    · exact ⟨rfl, Nat.zero_le _⟩
    · split
      · exact ⟨rfl, Nat.zero_le _⟩
      · obtain ⟨h1, h2⟩ := rRows_len k (wPut n.toNat o (p + x.toNat) r) (p + x.toNat + n.toNat) (r.drop (2 * n.toNat))
        rw [wPut_len] at h1
        rw [List.length_drop] at h2
        exact ⟨h1, by simp only [List.length_cons]; omega⟩
  | _ + 1, _, _, [] => ⟨rfl, Nat.le_refl _⟩
  | _ + 1, _, _, [_] => ⟨rfl, Nat.le_refl _⟩
/-- Places, changed by numbers, and what is left, as the document says. -/
def rChg (f : List (Int × Int)) : List Int → List (Int × Int) × List Int
  | [] => (f, [])
  | m :: L => rRows m.toNat f 0 L
theorem rChg_len (f : List (Int × Int)) (L : List Int) : (rChg f L).1.length = f.length ∧ (rChg f L).2.length ≤ L.length := by
  cases L with
  | nil => exact ⟨rfl, Nat.le_refl _⟩
  | cons m L =>
    obtain ⟨h1, h2⟩ := rRows_len m.toNat f 0 L
    exact ⟨h1, Nat.le_trans h2 (by simp)⟩
theorem rRows_bnd {P : Int → Prop} : ∀ (k : Nat) (o : List (Int × Int)) (p : Nat) (L : List Int), (∀ x ∈ L, P x) → ∀ x ∈ (rRows k o p L).2, P x
  | 0, _, _, _, h => h
  | k + 1, o, p, x :: n :: r, h => by
    rw [rRows]
    split
    · intro y hy; cases hy
    · split
      · intro y hy; cases hy
      · exact rRows_bnd k _ _ _ (fun y hy => h y (by have := List.mem_of_mem_drop hy; simp [this]))
  | _ + 1, _, _, [], h => h
  | _ + 1, _, _, [_], h => h
theorem rChg_bnd {P : Int → Prop} (f : List (Int × Int)) (L : List Int) (h : ∀ x ∈ L, P x) : ∀ x ∈ (rChg f L).2, P x := by
  cases L with
  | nil => exact h
  | cons m L => exact rRows_bnd _ _ _ _ (fun x hx => h x (List.mem_cons_of_mem _ hx))
end

/- What is read of a difference: the next number. -/
section
open Go.RowKit
set_option linter.unusedVariables false
set_option linter.unusedSimpArgs false
attribute [local go_sem ↓] Go.wp_at_zero Go.wp_at_succ

/-- The next number, what is left, and whether it is lost. -/
def nNext (L : List Int) (b : Bool) (m : Int) : Int × List Int × Bool :=
  if b then (0, L, true) else match L with
    | [] => (0, [], true)
    | x :: r => if m < x then (0, x :: r, true) else (x, r, false)
/-- Numbers, in a box, where they lie. -/
def NBox (w : World) (lo up g : Nat) (L : List Int) (b : Bool) : Prop := ∃ A n c, Blk w g 98 #[.slice A n c, .bool b] ∧ Sl w lo up 1 A n c (intCells L)
theorem NBox.grown {w w' : World} {lo up g : Nat} {L : List Int} {b : Bool} {row : Option Nat} (h : NBox w lo up g L b) (hg : w.grownBy w' row) (hB : up ≤ w.heap.size) (hr : ∀ k, row = some k → (k < lo ∨ up ≤ k) ∧ k ≠ g) : NBox w' lo up g L b := by
  obtain ⟨A, n, c, h1, h2⟩ := h
  exact ⟨A, n, c, h1.grown hg (fun e => (hr g e.symm).2 rfl), h2.grown hg hB (fun k e => (hr k e).1)⟩
theorem NBox.below {w w' : World} {lo up g B : Nat} {L : List Int} {b : Bool} (h : NBox w lo up g L b) (hb : Below B w w') (hg : g < B) (hB : up ≤ B) : NBox w' lo up g L b := by
  obtain ⟨A, n, c, h1, h2⟩ := h
  exact ⟨A, n, c, h1.below hb hg, h2.below hb hB⟩
theorem NBox.drewN {w : World} {lo up g : Nat} {L : List Int} {b : Bool} (h : NBox w lo up g L b) (k : Nat) : NBox (w.drewN k) lo up g L b := by
  obtain ⟨A, n, c, h1, h2⟩ := h
  exact ⟨A, n, c, h1, h2.drewN k⟩
theorem NBox.lt {w : World} {lo up g : Nat} {L : List Int} {b : Bool} (h : NBox w lo up g L b) : g < w.heap.size := by
  obtain ⟨A, n, c, h1, h2⟩ := h
  exact h1.lt

def RetNx (w : World) (lo up g : Nat) (q : Int × List Int × Bool) (e : Ending) (w' : World) : Prop :=
  e = .returned (.int .i64 q.1) ∧ w.grownBy w' (some g) ∧ w'.heap.size = w.heap.size ∧ NBox w' lo up g q.2.1 q.2.2

set_option maxHeartbeats 4000000 in
set_option maxRecDepth 100000 in
theorem nnext_any {lo up g : Nat} {L : List Int} {b : Bool} {w : World} (h : NBox w lo up g L b) (hup : up ≤ w.heap.size) (hg : g < lo ∨ up ≤ g) (hL : L.length ≤ 1000000) (m : Int) :
    Calls Try.prog 99 #[.pointer (some ⟨g, 0, none⟩), .int .i64 m] w (RetNx w lo up g (nNext L b m)) := by
  obtain ⟨A, n, c, hb, hr⟩ := h
  obtain ⟨i0, hi0, hz0, hz1, hz2⟩ := info_parts info3
  have hl0 : n = L.length := by have := hr.len; rw [intCells_length] at this; omega
  subst hl0
  have ⟨kb, fb⟩ := hb.rules
  have a1 := addr_add g 0 1
  have hgr := fun (v : Value) (i : Nat) => grownBy_setCells g [v] i w
  cases b
  rotate_left
  · have e : nNext L true m = (0, L, true) := rfl
    rw [e]
    clear e
    go_enter Try.func99, Try.ntmps99
    go_wp2_with fail
    go_ret
    exact ⟨rfl, hgr _ _, by simp, A, L.length, c, by simpa using hb.set_ 1 (.bool true), hr.setCell hg _⟩
  · cases L with
    | nil =>
      have e : nNext [] false m = (0, [], true) := rfl
      rw [e]
      clear e
      simp only [List.length_nil] at *
      go_enter Try.func99, Try.ntmps99
      go_wp2_with fail
      go_ret
      exact ⟨rfl, hgr _ _, by simp, A, 0, c, by simpa using hb.set_ 1 (.bool true), hr.setCell hg _⟩
    | cons x r =>
      obtain ⟨b0, o0, rfl, hgb, hgb2, hc⟩ := hr.at_ (by simp)
      have k1 : w.cell? ⟨b0, o0, none⟩ = some (.int .i64 x) := by have := hc 0 (by simp [intCells]); simpa [intCells] using this
      by_cases hx : m < x
      · have e : nNext (x :: r) false m = (0, x :: r, true) := by simp [nNext, hx]
        rw [e]
        clear e
        simp only [List.length_cons] at *
        go_enter Try.func99, Try.ntmps99
        go_wp2_with fail
        go_ret
        exact ⟨rfl, hgr _ _, by simp, _, _, c, by simpa using hb.set_ 1 (.bool true), hr.setCell hg _⟩
      · have e : nNext (x :: r) false m = (x, r, false) := by simp [nNext, hx]
        rw [e]
        clear e
        obtain ⟨A3, hcut, hs3⟩ := cut_l Try.underlying88 hi0 hz1 hr 1 r.length (1 : Int) rfl (by simp; omega)
        have hs3 : Sl w lo up 1 A3 r.length (c - 1) (intCells r) := by simpa [intCells] using hs3
        simp only [List.length_cons] at *
        have hne : b0 ≠ g := by omega
        have k2 : (w.setCell ⟨g, 1, none⟩ (.bool false)).cell? ⟨b0, o0, none⟩ = some (.int .i64 x) := by
          rw [World.cell?_setCell_other w _ _ _ (by simp [hne])]
          exact k1
        go_enter Try.func99, Try.ntmps99
        go_wp2_with fail
        go_ret
        refine ⟨rfl, grownBy_trans (hgr _ _) (grownBy_setCells g [_] _ _), by simp, A3, r.length, c - 1, ?_, (hs3.setCell hg _).setCell hg _⟩
        have := (hb.set_ 1 (.bool false)).set_ 0 (.slice A3 r.length (c - 1))
        simpa using this
end

/- Screens: the words, and what may be; the walks of grid.within, grid.may and what it calls, the document's side and cells. -/
section
open Go.RowKit
set_option linter.unusedVariables false
set_option linter.unusedSimpArgs false
attribute [local go_sem ↓] Go.wp_at_zero Go.wp_at_succ

theorem info64 : (Try.prog.info? 64).map (fun i => (i.zero, i.size, i.bytes)) = some (some (.agg #[.int .i64 0, .int .i64 0]), 2, 16) := by kernel_rfl

/-- Places' cells. -/
def cCells : List (Int × Int) → List Value
  | [] => []
  | p :: l => .int .i64 p.1 :: .int .i64 p.2 :: cCells l
theorem cCells_length : ∀ l : List (Int × Int), (cCells l).length = l.length * 2
  | [] => rfl
  | p :: l => by simp [cCells, cCells_length l, Nat.add_mul]
theorem cCells_append : ∀ l m : List (Int × Int), cCells (l ++ m) = cCells l ++ cCells m
  | [], m => rfl
  | p :: l, m => by simp [cCells, cCells_append l m]
theorem cCells_one : ∀ l : List (Int × Int), ∀ u ∈ cCells l, u.oneCell' = true
  | [], u, h => by simp [cCells] at h
  | p :: l, u, h => by
    simp only [cCells, List.mem_cons] at h
    rcases h with rfl | rfl | h
    · rfl
    · rfl
    · exact cCells_one l u h
theorem cCells_at : ∀ (l : List (Int × Int)) (j : Nat) (h : j < l.length), (cCells l)[j * 2]? = some (.int .i64 l[j].1) ∧ (cCells l)[j * 2 + 1]? = some (.int .i64 l[j].2)
  | [], j, h => absurd h (by simp)
  | p :: l, 0, h => by simp [cCells]
  | p :: l, j + 1, h => by
    have := cCells_at l j (by simpa using h)
    rw [show (j + 1) * 2 = j * 2 + 2 from by omega]
    simpa [cCells] using this
theorem cCells_take : ∀ (l : List (Int × Int)) (k : Nat), (cCells l).take (k * 2) = cCells (l.take k)
  | [], k => by simp [cCells]
  | p :: l, 0 => by simp [cCells]
  | p :: l, k + 1 => by
    rw [show (k + 1) * 2 = k * 2 + 2 from by omega, List.take_succ_cons]
    simp [cCells, cCells_take l k]
theorem cCells_drop : ∀ (l : List (Int × Int)) (k : Nat), (cCells l).drop (k * 2) = cCells (l.drop k)
  | [], k => by simp [cCells]
  | p :: l, 0 => by simp [cCells]
  | p :: l, k + 1 => by
    rw [show (k + 1) * 2 = k * 2 + 2 from by omega, List.drop_succ_cons]
    simp [cCells, cCells_drop l k]
theorem slc_cell {w : World} {lo up n c : Nat} {A : Option Addr} {l : List (Int × Int)} (hr : Sl w lo up 2 A n c (cCells l)) (hn : 0 < n) :
    ∃ g o, A = some ⟨g, o, none⟩ ∧ g < up ∧ ∀ j (h : j < l.length), w.cell? ⟨g, o + j * 2, none⟩ = some (.int .i64 l[j].1) ∧ w.cell? ⟨g, o + j * 2 + 1, none⟩ = some (.int .i64 l[j].2) := by
  obtain ⟨g, o, rfl, _, hb, hc⟩ := hr.at_ hn
  refine ⟨g, o, rfl, hb, fun j h => ?_⟩
  have hl := cCells_length l
  have := cCells_at l j h
  simp only [Nat.add_assoc]
  rw [hc (j * 2) (by omega), hc (j * 2 + 1) (by omega)]
  exact this
theorem slc_len {w : World} {lo up n c : Nat} {A : Option Addr} {l : List (Int × Int)} (hr : Sl w lo up 2 A n c (cCells l)) : n = l.length := by
  have := hr.len
  rw [cCells_length] at this
  omega

/-- A number from one to another. -/
def inB (n lo hi : Int) : Bool := decide (lo ≤ n ∧ n ≤ hi)
theorem inB_true {n lo hi : Int} : inB n lo hi = true ↔ lo ≤ n ∧ n ≤ hi := by simp [inB]
theorem inB_false {n lo hi : Int} : inB n lo hi = false ↔ ¬ (lo ≤ n ∧ n ≤ hi) := by simp only [inB, decide_eq_false_iff_not]
theorem within_any (n lo hi : Int) (w : World) : Calls Try.prog 41 #[.int .i64 n, .int .i64 lo, .int .i64 hi] w fun e w' => e = .returned (.bool (inB n lo hi)) ∧ w' = w := by
  by_cases h1 : lo ≤ n
  · by_cases h2 : n ≤ hi
    · rw [inB_true.2 ⟨h1, h2⟩]
      go_enter Try.func41, Try.ntmps41
      go_wp2
      go_ret
      exact ⟨rfl, rfl⟩
    · rw [inB_false.2 (fun h => h2 h.2)]
      go_enter Try.func41, Try.ntmps41
      go_wp2
      go_ret
      exact ⟨rfl, rfl⟩
  · rw [inB_false.2 (fun h => h1 h.1)]
    go_enter Try.func41, Try.ntmps41
    go_wp2
    go_ret
    exact ⟨rfl, rfl⟩
theorem side_any (n : Int) (w : World) : Calls Try.prog 92 #[.int .i64 n] w fun e w' => e = .returned (.bool (inB n 1 64)) ∧ w' = w := by
  by_cases h1 : 1 ≤ n
  · by_cases h2 : n ≤ 64
    · rw [inB_true.2 ⟨h1, h2⟩]
      go_enter Try.func92, Try.ntmps92
      go_wp2
      go_ret
      exact ⟨rfl, rfl⟩
    · rw [inB_false.2 (fun h => h2 h.2)]
      go_enter Try.func92, Try.ntmps92
      go_wp2
      go_ret
      exact ⟨rfl, rfl⟩
  · rw [inB_false.2 (fun h => h1 h.1)]
    go_enter Try.func92, Try.ntmps92
    go_wp2
    go_ret
    exact ⟨rfl, rfl⟩

/-- A place that may be. -/
def cOk (c : Int × Int) : Bool := inB c.1 32 1114111 && inB c.2 0 2047
/-- As many places, each of which may be. -/
def mayB (l : List (Int × Int)) (n : Int) : Bool := decide ((l.length : Int) = n) && l.all cOk

theorem badc_any (c : Int × Int) (w : World) : Calls Try.prog 81 #[.agg #[.int .i64 c.1, .int .i64 c.2]] w fun e w' => e = .returned (.bool (!cOk c)) ∧ Below w.heap.size w w' := by
  obtain ⟨x, y⟩ := c
  unfold cOk
  have H1 := Lib.hid (fun W => within_any x 32 1114111 W)
  have H2 := Lib.hid (fun W => within_any y 0 2047 W)
  cases h1 : inB x 32 1114111
  · rw [h1] at H1
    clear h1
    go_enter Try.func81, Try.ntmps81
    go_wp2_with fail
    refine (H1.out _).mono ?_
    rintro e w1 ⟨rfl, rfl⟩
    go_wp2
    go_ret
    exact ⟨rfl, (Below.refl _ _).alloc (Nat.le_refl _) _⟩
  · cases h2 : inB y 0 2047
    all_goals
      rw [h1] at H1
      rw [h2] at H2
      clear h1 h2
      go_enter Try.func81, Try.ntmps81
      go_wp2_with fail
      refine (H1.out _).mono ?_
      rintro e w1 ⟨rfl, rfl⟩
      go_wp2_with fail
      refine (H2.out _).mono ?_
      rintro e w1 ⟨rfl, rfl⟩
      go_wp2
      go_ret
      exact ⟨rfl, (Below.refl _ _).alloc (Nat.le_refl _) _⟩

/-- The place of the first of which something is so, or below 0. -/
def rIdx {α : Type} (p : α → Bool) (l : List α) : Int := if l.any p = true then (l.findIdx p : Int) else -1
theorem rIdx_at {α : Type} {p : α → Bool} {l : List α} {i : Nat} (h : i < l.length) (hp : p l[i] = true) (hno : ∀ j (hj : j < l.length), j < i → p l[j] = false) : rIdx p l = i := by
  unfold rIdx
  rw [if_pos (List.any_eq_true.2 ⟨l[i], List.getElem_mem h, hp⟩), (List.findIdx_eq h).2 ⟨hp, fun j hj => hno j (by omega) hj⟩]
theorem rIdx_none {α : Type} {p : α → Bool} {l : List α} (hno : ∀ j (hj : j < l.length), p l[j] = false) : rIdx p l = -1 ∧ l.any p = false := by
  have : l.any p = false := by
    rw [List.any_eq_false]
    intro x hx
    obtain ⟨j, hj, rfl⟩ := List.getElem_of_mem hx
    rw [hno j hj]
    simp
  exact ⟨by unfold rIdx; rw [this]; rfl, this⟩

set_option maxHeartbeats 4000000 in
theorem indexc_any {lo up : Nat} {A : Option Addr} {n c : Nat} {l : List (Int × Int)} {w : World} (hr : Sl w lo up 2 A n c (cCells l)) (hup : up ≤ w.heap.size) (hn : n ≤ 9223372036854775807) :
    Calls Try.prog 103 #[.slice A n c, .func (.func 81) #[] #[]] w fun e w' => e = .returned (.int .i64 (rIdx (fun c => !cOk c) l)) ∧ Below w.heap.size w w' := by
  have hlen := slc_len hr
  subst hlen
  have HR := Lib.hid hr
  clear hr
  go_enter Try.func103, Try.ntmps103
  go_wp2_with fail
  go_loopg [8] l.length (fun gh s8 wr => ∃ i : Nat, gh = l.length - i ∧ i ≤ l.length ∧ s8 = .int .i64 i ∧ Below w.heap.size w wr ∧ Hid (∀ j (h : j < l.length), j < i → (!cOk l[j]) = false))
  case atStart => exact ⟨0, by omega, by omega, rfl, Below.refl _ _, Lib.hid (fun _ _ h => absurd h (by omega))⟩
  case round =>
    obtain ⟨i, hg, hi, rfl, bb, hno⟩ := hrel
    have z0 := bb.size
    by_cases h : i < l.length
    · obtain ⟨b, o, rfl, hgu, hc⟩ := slc_cell (HR.out.below bb hup) (by omega)
      have k1 := (hc i h).1
      have k2 := (hc i h).2
      have a1 := addr_add b o (i * 2)
      have HC := Lib.hid (badc_any l[i] wr)
      cases hp : cOk l[i]
      · have hidx := rIdx_at (p := fun c => !cOk c) h (by simp [hp]) hno.out
        have Hidx := Lib.hid hidx
        rw [hp] at HC
        clear hno hp hc hidx
        generalize l[i].1 = x at *
        generalize l[i].2 = y at *
        go_wp2_with fail
        refine HC.out.mono ?_
        rintro e w1 ⟨rfl, hb⟩
        go_wp2
        go_ret
        exact ⟨by rw [Hidx.out]; rfl, bb.trans (hb.mono z0)⟩
      · have hno2 : ∀ j (h : j < l.length), j < i + 1 → (!cOk l[j]) = false := by
          intro j hj hj1
          by_cases hji : j < i
          · exact hno.out j hj hji
          · obtain rfl : j = i := by omega
            simp [hp]
        have Hno2 := Lib.hid hno2
        rw [hp] at HC
        clear hno2 hno hp hc
        generalize l[i].1 = x at *
        generalize l[i].2 = y at *
        go_wp2_with fail
        refine HC.out.mono ?_
        rintro e w1 ⟨rfl, hb⟩
        go_wp2
        go_roundg (l.length - (i + 1))
        case measure => omega
        case rel => exact ⟨i + 1, rfl, by omega, by simp, bb.trans (hb.mono z0), Hno2⟩
    · obtain rfl : i = l.length := by omega
      have hidx := (rIdx_none (p := fun c => !cOk c) (fun j hj => hno.out j hj hj)).1
      have Hidx := Lib.hid hidx
      clear hno hidx
      go_wp2
      go_ret
      exact ⟨by rw [Hidx.out]; rfl, bb⟩

theorem any_bad (l : List (Int × Int)) : l.any (fun c => !cOk c) = !l.all cOk := by
  rw [List.all_eq_not_any_not, Bool.not_not]
theorem containsc_any {lo up : Nat} {A : Option Addr} {n c : Nat} {l : List (Int × Int)} {w : World} (hr : Sl w lo up 2 A n c (cCells l)) (hup : up ≤ w.heap.size) (hn : n ≤ 9223372036854775807) :
    Calls Try.prog 80 #[.slice A n c, .func (.func 81) #[] #[]] w fun e w' => e = .returned (.bool (!l.all cOk)) ∧ Below w.heap.size w w' := by
  have H := indexc_any hr hup hn
  rw [← any_bad]
  cases h : l.any (fun c => !cOk c)
  · have e : rIdx (fun c => !cOk c) l = -1 := by unfold rIdx; rw [h]; rfl
    rw [e] at H
    clear h e
    go_enter Try.func80, Try.ntmps80
    go_wp2_with fail
    refine H.mono ?_
    rintro e w1 ⟨rfl, hb⟩
    go_wp2
    go_ret
    exact ⟨rfl, hb⟩
  · obtain ⟨k, hk⟩ : ∃ k : Nat, rIdx (fun c => !cOk c) l = k := ⟨_, by unfold rIdx; rw [h]; rfl⟩
    rw [hk] at H
    clear h hk
    have hk0 : (0 : Int) ≤ k := by omega
    go_enter Try.func80, Try.ntmps80
    go_wp2_with fail
    refine H.mono ?_
    rintro e w1 ⟨rfl, hb⟩
    go_wp2
    go_ret
    exact ⟨rfl, hb⟩
theorem may_any {lo up : Nat} {A : Option Addr} {n c : Nat} {l : List (Int × Int)} {m : Int} {w : World} (hr : Sl w lo up 2 A n c (cCells l)) (hup : up ≤ w.heap.size) (hn : n ≤ 9223372036854775807) :
    Calls Try.prog 42 #[.slice A n c, .int .i64 m] w fun e w' => e = .returned (.bool (mayB l m)) ∧ Below w.heap.size w w' := by
  have hlen := slc_len hr
  have H := Lib.hid (fun W (h : Sl W lo up 2 A n c (cCells l)) hu => containsc_any h hu hn)
  have HR := Lib.hid hr
  clear hr
  subst hlen
  unfold mayB
  by_cases hm : (l.length : Int) = m
  · subst hm
    have d0 : decide ((l.length : Int) = (l.length : Int)) = true := by simp
    rw [d0]
    clear d0
    cases h : l.all cOk
    all_goals
      rw [h] at H
      clear h
      go_enter Try.func42, Try.ntmps42
      go_wp2_with fail
      refine (H.out _ HR.out hup).mono ?_
      rintro e w1 ⟨rfl, hb⟩
      go_wp2
      go_ret
      exact ⟨rfl, hb⟩
  · have d0 : decide ((l.length : Int) = m) = false := by simpa using hm
    rw [d0]
    have d1 : ((l.length : Int) == m) = false := by simpa using hm
    clear d0 hm H HR
    go_enter Try.func42, Try.ntmps42
    go_wp2
    go_ret
    exact ⟨rfl, Below.refl _ _⟩
end

/- Places, changed by numbers: plain laws; rows written in place. -/
section
open Go.RowKit
set_option linter.unusedVariables false
set_option linter.unusedSimpArgs false

theorem nNext_bnd {L : List Int} {b : Bool} {m : Int} (h : ∀ x ∈ L, 0 ≤ x) (hm : 0 ≤ m) : 0 ≤ (nNext L b m).1 ∧ (nNext L b m).1 ≤ m ∧ (∀ x ∈ (nNext L b m).2.1, 0 ≤ x) ∧ (nNext L b m).2.1.length ≤ L.length := by
  cases b
  rotate_left
  · exact ⟨Int.le_refl _, hm, h, Nat.le_refl _⟩
  · cases L with
    | nil => exact ⟨Int.le_refl _, hm, h, Nat.le_refl _⟩
    | cons x r =>
      by_cases hx : m < x
      · simp only [nNext, hx, if_true, Bool.false_eq_true, if_false]
        exact ⟨Int.le_refl _, hm, h, Nat.le_refl _⟩
      · simp only [nNext, hx, Bool.false_eq_true, if_false]
        exact ⟨h x (List.mem_cons_self ..), by omega, fun y hy => h y (List.mem_cons_of_mem _ hy), by simp⟩
/-- Places written one behind the other. -/
def nPut : Nat → List (Int × Int) → Nat → List Int → Bool → List (Int × Int) × Nat × List Int × Bool
  | 0, o, p, L, b => (o, p, L, b)
  | k + 1, o, p, L, b => nPut k (o.set p ((nNext L b 4611686018427387903).1, (nNext (nNext L b 4611686018427387903).2.1 (nNext L b 4611686018427387903).2.2 4611686018427387903).1)) (p + 1)
      (nNext (nNext L b 4611686018427387903).2.1 (nNext L b 4611686018427387903).2.2 4611686018427387903).2.1 (nNext (nNext L b 4611686018427387903).2.1 (nNext L b 4611686018427387903).2.2 4611686018427387903).2.2
/-- What is ahead of a row's places: where it begins, how many, what is left. -/
def nTwo (n p : Nat) (L : List Int) (b : Bool) : Nat × Nat × List Int × Bool :=
  (p + (nNext L b (n - p)).1.toNat, (nNext (nNext L b (n - p)).2.1 (nNext L b (n - p)).2.2 (n - ((p + (nNext L b (n - p)).1.toNat : Nat) : Int))).1.toNat,
    (nNext (nNext L b (n - p)).2.1 (nNext L b (n - p)).2.2 (n - ((p + (nNext L b (n - p)).1.toNat : Nat) : Int))).2.1, (nNext (nNext L b (n - p)).2.1 (nNext L b (n - p)).2.2 (n - ((p + (nNext L b (n - p)).1.toNat : Nat) : Int))).2.2)
/-- Rows. -/
def nRows : Nat → List (Int × Int) → Nat → List Int → Bool → List (Int × Int) × List Int × Bool
  | 0, o, p, L, b => (o, L, b)
  | k + 1, o, p, L, b => nRows k (nPut (nTwo o.length p L b).2.1 o (nTwo o.length p L b).1 (nTwo o.length p L b).2.2.1 (nTwo o.length p L b).2.2.2).1 (nPut (nTwo o.length p L b).2.1 o (nTwo o.length p L b).1 (nTwo o.length p L b).2.2.1 (nTwo o.length p L b).2.2.2).2.1
      (nPut (nTwo o.length p L b).2.1 o (nTwo o.length p L b).1 (nTwo o.length p L b).2.2.1 (nTwo o.length p L b).2.2.2).2.2.1 (nPut (nTwo o.length p L b).2.1 o (nTwo o.length p L b).1 (nTwo o.length p L b).2.2.1 (nTwo o.length p L b).2.2.2).2.2.2
/-- Places, changed by numbers, and what is left. -/
def nChg (f : List (Int × Int)) (L : List Int) (b : Bool) : List (Int × Int) × List Int × Bool := nRows (nNext L b f.length).1.toNat f 0 (nNext L b f.length).2.1 (nNext L b f.length).2.2

theorem own_keep {w w' : World} {base : Nat} {e : TypeId} {s : Nat} {v : Value} {n : Nat} {xs : List Value} {g : Nat} (h : w.ownsRow base e s v n xs) (hg : w.grownBy w' (some g)) (hb : g < base) : w'.ownsRow base e s v n xs := by
  refine ⟨h.1, ?_⟩
  rcases h.2 with h2 | ⟨g', cap, cur, hv, hg', hh, r⟩
  · exact .inl h2
  · exact .inr ⟨g', cap, cur, hv, hg', (hg.block g' (Array.getElem?_eq_some_iff.1 hh).1 (fun e => by injection e with e; omega)).trans hh, r⟩
theorem grown_own {w w1 w2 : World} {g k : Nat} (h : w.grownBy w1 (some g)) (h2 : w1.grownBy w2 (some k)) (hk : w.heap.size ≤ k) : w.grownBy w2 (some g) :=
  ⟨h2.os.trans h.os, h2.tape.trans h.tape, h2.output.trans h.output, Nat.le_trans h.size h2.size, fun j hj hne => (h2.block j (Nat.lt_of_lt_of_le hj h.size) (fun e => by injection e with e; omega)).trans (h.block j hj hne)⟩
theorem grown_below' {w w1 : World} {g : Nat} (h : Below w.heap.size w w1) : w.grownBy w1 (some g) := grownBy_below h (Nat.le_refl _)
/-- A place, written in a row that is one's own. -/
theorem own_setc {w : World} {base n c p : Nat} {A : Option Addr} {o : List (Int × Int)} (h : w.ownsRow base 64 2 (.slice A n c) n (cCells o)) (hp : p < o.length) (x y : Int) :
    ∃ g, A = some ⟨g, 0, none⟩ ∧ base ≤ g ∧ g < w.heap.size ∧ (∃ u, w.cell? ⟨g, p * 2, none⟩ = some u) ∧ (∃ u, w.cell? ⟨g, p * 2 + 1, none⟩ = some u) ∧ (∀ i, w.frozen? ⟨g, i, none⟩ = false) ∧
      (w.setCells g (p * 2) [.int .i64 x, .int .i64 y]).ownsRow base 64 2 (.slice A n c) n (cCells (o.set p (x, y))) := by
  have hn : n = o.length := by have := h.1; rw [cCells_length] at this; omega
  subst hn
  obtain ⟨g, cur, rfl, hb, hg, hnc, hcm, hcs, ht⟩ := own_split h (by omega)
  have hlt := (Array.getElem?_eq_some_iff.1 hg).1
  have q1 : p * 2 + 1 < cur.size := by omega
  obtain ⟨cur', h1, e1⟩ := setCells_row g [.int .i64 x, .int .i64 y] (p * 2) w cur hg (by simp; omega)
  refine ⟨g, rfl, hb, hlt, ?_, ?_, fun i => by simp [World.frozen?, hg], ?_⟩
  · rw [cell_of_row w g _ cur 64 (0, 0) hg]
    exact ⟨_, Array.getElem?_eq_getElem (by omega)⟩
  · rw [cell_of_row w g _ cur 64 (0, 0) hg]
    exact ⟨_, Array.getElem?_eq_getElem q1⟩
  · refine own_mk hb h1 hnc hcm ?_ ?_
    · rw [← Array.length_toList, e1, List.length_append, List.length_append, List.length_take, List.length_drop, Array.length_toList]
      simp only [List.length_cons, List.length_nil]
      omega
    · have ec : cCells (o.set p (x, y)) = cCells (o.take p) ++ [.int .i64 x, .int .i64 y] ++ cCells (o.drop (p + 1)) := by
        rw [List.set_eq_take_append_cons_drop, if_pos hp, cCells_append, show (x, y) :: o.drop (p + 1) = [(x, y)] ++ o.drop (p + 1) from rfl, cCells_append, List.append_assoc]
        rfl
      rw [ec, ← cCells_take, ← cCells_drop, ← ht, e1, List.take_take, Nat.min_eq_left (by omega), List.drop_take, List.append_assoc, List.append_assoc, List.take_append, List.take_append]
      have l1 : (cur.toList.take (p * 2)).length = p * 2 := by rw [List.length_take, Array.length_toList]; omega
      rw [l1, List.take_of_length_le (l := cur.toList.take (p * 2)) (by omega), List.take_of_length_le (l := [Value.int .i64 x, .int .i64 y]) (by simp; omega)]
      simp only [List.length_cons, List.length_nil]
      rw [show p * 2 + (0 + 1 + 1) = (p + 1) * 2 from by omega, show o.length * 2 - p * 2 - (0 + 1 + 1) = o.length * 2 - (p + 1) * 2 from by omega]
end

/- The walks of both Checks of screens. -/
section
open Go.RowKit
set_option linter.unusedVariables false
set_option linter.unusedSimpArgs false
attribute [local go_sem ↓] Go.wp_at_zero Go.wp_at_succ

theorem below_drewN {B : Nat} {a w : World} (h : Below B a w) (k : Nat) : Below B a (w.drewN k) := ⟨h.os, h.tape, h.output, h.size, h.block⟩

set_option maxHeartbeats 4000000 in
set_option maxRecDepth 100000 in
theorem cells_is {lo up : Nat} {A : Option Addr} {n c : Nat} {l : List (Int × Int)} {m : Int} {w : World} (hr : Sl w lo up 2 A n c (cCells l)) (hup : up ≤ w.heap.size) (hn : n ≤ 9223372036854775807) (B : Bool) (hB : mayB l m = B) :
    Calls Try.prog 93 #[.slice A n c, .int .i64 m] w fun e w' => e = .returned (.bool B) ∧ Below w.heap.size w w' := by
  have hlen := slc_len hr
  subst hlen
  unfold mayB at hB
  by_cases hm : (l.length : Int) = m
  rotate_left
  · have d0 : decide ((l.length : Int) = m) = false := by simpa using hm
    rw [d0] at hB
    obtain rfl : false = B := hB
    have d1 : ((l.length : Int) == m) = false := by simpa using hm
    have d2 : ((l.length : Int) != m) = true := by simpa using hm
    clear d0 hm hr
    go_enter Try.func93, Try.ntmps93
    go_wp2
    go_ret
    exact ⟨rfl, Below.refl _ _⟩
  subst hm
  have d0 : decide ((l.length : Int) = (l.length : Int)) = true := by simp
  rw [d0, Bool.true_and] at hB
  clear d0
  have HB := Lib.hid hB
  have HR := Lib.hid hr
  clear hr hB
  go_enter Try.func93, Try.ntmps93
  go_wp2_with fail
  go_loopg [5] l.length (fun gh s5 wr => ∃ i : Nat, gh = l.length - i ∧ i ≤ l.length ∧ s5 = .int .i64 i ∧ Below w.heap.size w wr ∧ Hid (∀ j (h : j < l.length), j < i → cOk l[j] = true))
  case atStart => exact ⟨0, by omega, by omega, rfl, Below.refl _ _, Lib.hid (fun _ _ h => absurd h (by omega))⟩
  case round =>
    obtain ⟨i, hg, hi, rfl, bb, hno⟩ := hrel
    have z0 := bb.size
    by_cases h : i < l.length
    · obtain ⟨b, o, rfl, hgu, hc⟩ := slc_cell (HR.out.below bb hup) (by omega)
      have k1 := (hc i h).1
      have k2 := (hc i h).2
      have a1 := addr_add b o (i * 2)
      have HG := Lib.hid hg
      clear hg
      cases hp : cOk l[i]
      · have hall : l.all cOk = false := by
          rw [List.all_eq_false]
          exact ⟨l[i], List.getElem_mem h, by simp [hp]⟩
        obtain rfl : false = B := hall.symm.trans HB.out
        unfold cOk at hp
        clear hno hc hall HB
        generalize l[i].1 = x at *
        generalize l[i].2 = y at *
        simp only [Bool.and_eq_false_iff, inB_false] at hp
        by_cases b1 : x < 32
        · go_wp2_with fail
          go_ret
          exact ⟨rfl, bb⟩
        · by_cases b2 : 1114111 < x
          · go_wp2_with fail
            go_ret
            exact ⟨rfl, bb⟩
          · by_cases b3 : y < 0
            · clear hp
              go_wp2_with fail
              go_ret
              exact ⟨rfl, bb⟩
            · have b4 : 2047 < y := by omega
              clear hp
              go_wp2_with fail
              go_ret
              exact ⟨rfl, bb⟩
      · have hno2 : ∀ j (h : j < l.length), j < i + 1 → cOk l[j] = true := by
          intro j hj hj1
          by_cases hji : j < i
          · exact hno.out j hj hji
          · obtain rfl : j = i := by omega
            exact hp
        have Hno2 := Lib.hid hno2
        unfold cOk at hp
        clear hno2 hno hc
        generalize l[i].1 = x at *
        generalize l[i].2 = y at *
        simp only [Bool.and_eq_true, inB_true] at hp
        obtain ⟨⟨h1, h2⟩, h3, h4⟩ := hp
        have d1 : (x < 32) = False := eq_false (by omega)
        have d2 : ((1114111 : Int) < x) = False := eq_false (by omega)
        have d3 : (y < 0) = False := eq_false (by omega)
        have d4 : ((2047 : Int) < y) = False := eq_false (by omega)
        go_wp2_with fail
        go_roundg (l.length - (i + 1))
        case measure => have := HG.out; omega
        case rel => exact ⟨i + 1, rfl, by omega, by simp, bb, Hno2⟩
    · obtain rfl : i = l.length := by omega
      have hall : l.all cOk = true := by
        rw [List.all_eq_true]
        intro c hc
        obtain ⟨j, hj, rfl⟩ := List.getElem_of_mem hc
        exact hno.out j hj hj
      obtain rfl : true = B := hall.symm.trans HB.out
      clear hno hall HB
      go_wp2
      go_ret
      exact ⟨rfl, bb⟩
theorem cells_any {lo up : Nat} {A : Option Addr} {n c : Nat} {l : List (Int × Int)} {m : Int} {w : World} (hr : Sl w lo up 2 A n c (cCells l)) (hup : up ≤ w.heap.size) (hn : n ≤ 9223372036854775807) :
    Calls Try.prog 93 #[.slice A n c, .int .i64 m] w fun e w' => e = .returned (.bool (mayB l m)) ∧ Below w.heap.size w w' := cells_is hr hup hn _ rfl

/-- A screen. -/
structure Scr where
  W : Int
  H : Int
  X : Int
  Y : Int
  At : Int
  Tp : Int
  Bt : Int
  wr : Bool
  au : Bool
  hi : Bool
  al : Bool
  s0 : Int
  s1 : Int
  s2 : Int
  cs : List (Int × Int)
  ms : List (Int × Int)
/-- Its cells, the places where they lie. -/
def Scr.v (s : Scr) (C : Option Addr) (cc : Nat) (M : Option Addr) (cm : Nat) : Array Value :=
  #[.int .i64 s.W, .int .i64 s.H, .slice C s.cs.length cc, .int .i64 s.X, .int .i64 s.Y, .int .i64 s.At, .int .i64 s.Tp, .int .i64 s.Bt, .bool s.wr, .bool s.au, .bool s.hi, .bool s.al, .int .i64 s.s0, .int .i64 s.s1, .int .i64 s.s2, .slice M s.ms.length cm]
/-- Its places lie in blocks from lo on, below up. -/
structure ScrAt (w : World) (lo up : Nat) (s : Scr) (C : Option Addr) (cc : Nat) (M : Option Addr) (cm : Nat) : Prop where
  c : Sl w lo up 2 C s.cs.length cc (cCells s.cs)
  m : Sl w lo up 2 M s.ms.length cm (cCells s.ms)
theorem ScrAt.below {w w' : World} {lo up : Nat} {s : Scr} {C : Option Addr} {cc : Nat} {M : Option Addr} {cm : Nat} (h : ScrAt w lo up s C cc M cm) {B : Nat} (hb : Below B w w') (hB : up ≤ B) : ScrAt w' lo up s C cc M cm := ⟨h.c.below hb hB, h.m.below hb hB⟩
theorem ScrAt.more {w : World} {lo up lo' up' : Nat} {s : Scr} {C : Option Addr} {cc : Nat} {M : Option Addr} {cm : Nat} (h : ScrAt w lo up s C cc M cm) (h1 : lo' ≤ lo) (h2 : up ≤ up') : ScrAt w lo' up' s C cc M cm := ⟨h.c.more h1 h2, h.m.more h1 h2⟩
theorem ScrAt.alloc {w : World} {lo up : Nat} {s : Scr} {C : Option Addr} {cc : Nat} {M : Option Addr} {cm : Nat} (h : ScrAt w lo up s C cc M cm) (hB : up ≤ w.heap.size) (o : Obj) : ScrAt (w.alloc o) lo up s C cc M cm := ⟨h.c.alloc hB o, h.m.alloc hB o⟩
theorem ScrAt.drewN {w : World} {lo up : Nat} {s : Scr} {C : Option Addr} {cc : Nat} {M : Option Addr} {cm : Nat} (h : ScrAt w lo up s C cc M cm) (k : Nat) : ScrAt (w.drewN k) lo up s C cc M cm := ⟨h.c.drewN k, h.m.drewN k⟩
/-- Its lengths are Go's. -/
def Scr.Len (s : Scr) : Prop := s.cs.length ≤ 9223372036854775807 ∧ s.ms.length ≤ 9223372036854775807
/-- The parts of what may be. -/
def gSides (s : Scr) : Bool := inB s.W 1 64 && inB s.H 1 64
def gPlaces (s : Scr) : Bool := mayB s.cs (s.W * s.H) && mayB s.ms (if s.al then s.W * s.H else 0)
def gCur (s : Scr) : Bool := inB s.X 0 (s.W - 1) && inB s.Y 0 (s.H - 1) && inB s.At 0 2047
def gRows (s : Scr) : Bool := inB s.Tp 0 s.Bt && decide (s.Bt < s.H)
def gSaved (s : Scr) : Bool := inB s.s0 0 63 && inB s.s1 0 63 && inB s.s2 0 2047
/-- A screen that may be. -/
def gOk (s : Scr) : Bool := gSides s && gPlaces s && gCur s && gRows s && gSaved s
theorem gsides {s : Scr} (h : gSides s = true) : (1 ≤ s.W ∧ s.W ≤ 64) ∧ (1 ≤ s.H ∧ s.H ≤ 64) := by
  simpa only [gSides, Bool.and_eq_true, inB_true] using h
theorem area {W H : Int} (h : (1 ≤ W ∧ W ≤ 64) ∧ (1 ≤ H ∧ H ≤ 64)) : 1 ≤ W * H ∧ W * H ≤ 4096 := by
  obtain ⟨⟨a, b⟩, c, d⟩ := h
  have h1 : 1 * 1 ≤ W * H := Int.mul_le_mul a c (by omega) (by omega)
  have h2 : W * H ≤ 64 * 64 := Int.mul_le_mul b d (by omega) (by omega)
  omega
end

/- The walk of bytes.Equal. -/
section
open Go.RowKit
set_option linter.unusedVariables false
set_option linter.unusedSimpArgs false
attribute [local go_sem ↓] Go.wp_at_zero Go.wp_at_succ

theorem equal_any {lo up lo2 up2 : Nat} {A A2 : Option Addr} {c c2 : Nat} {l l2 : List UInt8} {w : World} (h : Sl w lo up 1 A l.length c (byteCells l)) (h2 : Sl w lo2 up2 1 A2 l2.length c2 (byteCells l2)) :
    Calls Try.prog 52 #[.slice A l.length c, .slice A2 l2.length c2] w fun e w' => e = .returned (.bool (decide (l = l2))) ∧ w' = w := by
  have q1 := run_string_of h Try.underlying23 Try.underlying5 Try.underlying9
  have q2 := run_string_of h2 Try.underlying23 Try.underlying5 Try.underlying9
  go_enter Try.func52, Try.ntmps52
  go_wp2_with fail
  go_ret
  have e : (l == l2) = decide (l = l2) := by rw [Bool.eq_iff_iff]; simp
  exact ⟨by rw [← e]; rfl, rfl⟩
end
end Go.Proofs.Ytfeeincglijmjaa
