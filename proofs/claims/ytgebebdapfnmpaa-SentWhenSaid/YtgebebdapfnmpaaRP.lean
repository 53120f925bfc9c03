/- Plain laws of lists of ranges that descend. -/
import Derived.Test.YtgebebdapfnmpaaRA
namespace Go.Proofs.Ytgebebdapfnmpaa
set_option linter.unusedVariables false
set_option linter.unusedSimpArgs false

/-- Ranges that descend, with gaps, each below a bound. -/
def rDesc : Int → List (Int × Int) → Prop
  | _, [] => True
  | b, p :: l => 0 ≤ p.1 ∧ p.1 ≤ p.2 ∧ p.2 < b ∧ rDesc (p.1 - 1) l
/-- The same, as a truth value. -/
def rDescB : Int → List (Int × Int) → Bool
  | _, [] => true
  | b, p :: l => decide (0 ≤ p.1) && decide (p.1 ≤ p.2) && decide (p.2 < b) && rDescB (p.1 - 1) l
theorem rDescB_iff : ∀ (l : List (Int × Int)) (b : Int), rDescB b l = true ↔ rDesc b l
  | [], b => by simp [rDescB, rDesc]
  | p :: l, b => by simp [rDescB, rDesc, rDescB_iff l, and_assoc]
theorem rDesc_mono : ∀ {l : List (Int × Int)} {b b' : Int}, rDesc b l → b ≤ b' → rDesc b' l
  | [], _, _, _, _ => trivial
  | p :: l, b, b', h, hb => ⟨h.1, h.2.1, by have := h.2.2.1; omega, h.2.2.2⟩

theorem rGood_cons {p : Int × Int} {l : List (Int × Int)} : rGood (p :: l) ↔ 0 ≤ p.1 ∧ p.1 ≤ p.2 ∧ p.2 ≤ 4611686018427387903 ∧ rGood l ∧ ∀ q, l[0]? = some q → q.2 < p.1 - 1 := by
  constructor
  · intro h
    have h0 := h 0 (by simp)
    simp only [if_true, List.getElem_cons_zero] at h0
    refine ⟨Int.not_lt.1 fun hh => h0 (.inl hh), Int.not_lt.1 fun hh => h0 (.inr (.inl hh)), Int.not_lt.1 fun hh => h0 (.inr (.inr (.inl hh))), ?_, ?_⟩
    · intro i hi hb
      have h1 := h (i + 1) (by simpa using hi)
      rw [if_neg (by omega), Nat.add_sub_cancel, List.getElem_cons_succ] at h1
      apply h1
      rcases hb with hb | hb | hb | ⟨q, hq, hb⟩
      · exact .inl hb
      · exact .inr (.inl hb)
      · exact .inr (.inr (.inl hb))
      · by_cases h0 : i = 0
        · rw [if_pos h0] at hq; cases hq
        · rw [if_neg h0] at hq
          refine .inr (.inr (.inr ⟨q, ?_, hb⟩))
          rw [show i = (i - 1) + 1 from by omega, List.getElem?_cons_succ]
          exact hq
    · intro q hq
      obtain ⟨hl, rfl⟩ := List.getElem?_eq_some_iff.1 hq
      have h1 := h 1 (by simpa using hl)
      rw [if_neg (by omega)] at h1
      apply Int.not_le.1
      intro hh
      exact h1 (.inr (.inr (.inr ⟨p, rfl, hh⟩)))
  · rintro ⟨h1, h2, h3, h4, h5⟩ i hi hb
    rcases i with _ | i
    · rcases hb with hb | hb | hb | ⟨q, hq, hb⟩
      · simp only [List.getElem_cons_zero] at hb; omega
      · simp only [List.getElem_cons_zero] at hb; omega
      · simp only [List.getElem_cons_zero] at hb; omega
      · cases hq
    · rw [if_neg (by omega), Nat.add_sub_cancel, List.getElem_cons_succ] at hb
      have hi' : i < l.length := by simpa using hi
      have h6 := h4 i hi'
      rcases hb with hb | hb | hb | ⟨q, hq, hb⟩
      · exact h6 (.inl hb)
      · exact h6 (.inr (.inl hb))
      · exact h6 (.inr (.inr (.inl hb)))
      · rcases i with _ | i
        · have := h5 l[0] (List.getElem?_eq_getElem hi')
          cases hq
          omega
        · exact h6 (.inr (.inr (.inr ⟨q, by rw [if_neg (by omega), Nat.add_sub_cancel]; simpa using hq, hb⟩)))
theorem rDesc_of : ∀ (l : List (Int × Int)) (b : Int), b ≤ 4611686018427387904 → (rDesc b l ↔ rGood l ∧ ∀ q, l[0]? = some q → q.2 < b)
  | [], b, _ => by simp [rDesc, rGood]
  | p :: l, b, hb => by
    rw [rGood_cons]
    constructor
    · rintro ⟨h1, h2, h3, h4⟩
      have := (rDesc_of l (p.1 - 1) (by omega)).1 h4
      exact ⟨⟨h1, h2, by omega, this.1, this.2⟩, by simpa using h3⟩
    · rintro ⟨⟨h1, h2, h3, h4, h5⟩, h6⟩
      have h7 := h6 p rfl
      exact ⟨h1, h2, h7, (rDesc_of l (p.1 - 1) (by omega)).2 ⟨h4, h5⟩⟩
/-- Whether ranges may be. -/
def rOk (l : List (Int × Int)) : Bool := rDescB 4611686018427387904 l && decide (l.length ≤ 16)
theorem rOk_desc {l : List (Int × Int)} (h : rOk l = true) : rDesc 4611686018427387904 l ∧ l.length ≤ 16 := by
  simpa [rOk, rDescB_iff] using h
theorem rOk_iff (l : List (Int × Int)) : rOk l = true ↔ rGood l ∧ l.length ≤ 16 := by
  rw [rOk, Bool.and_eq_true, rDescB_iff, rDesc_of l _ (Int.le_refl _), decide_eq_true_iff]
  constructor
  · rintro ⟨⟨h1, _⟩, h2⟩; exact ⟨h1, h2⟩
  · rintro ⟨h1, h2⟩
    refine ⟨⟨h1, fun q hq => ?_⟩, h2⟩
    obtain ⟨hl, rfl⟩ := List.getElem?_eq_some_iff.1 hq
    have := h1 0 hl
    exact Int.not_le.1 fun hh => this (.inr (.inr (.inl (by omega))))
/-- Ranges that may be, or none. -/
def rOf (l : List (Int × Int)) : List (Int × Int) := if rOk l = true then l else []
theorem rOf_desc (l : List (Int × Int)) : rDesc 4611686018427387904 (rOf l) ∧ (rOf l).length ≤ 16 := by
  unfold rOf
  by_cases h : rOk l = true
  · rw [if_pos h]; exact rOk_desc h
  · rw [if_neg h]; exact ⟨trivial, by simp⟩
theorem rOk_rOf (l : List (Int × Int)) : rOk (rOf l) = true := by
  have := rOf_desc l
  simpa [rOk, rDescB_iff] using this
theorem rOf_ok {l : List (Int × Int)} (h : rOk l = true) : rOf l = l := if_pos h
/-- Whether a number is in one of ranges. -/
def rHas (l : List (Int × Int)) (x : Int) : Bool := l.any fun p => decide (p.1 ≤ x ∧ x ≤ p.2)
theorem rHas_cons (p : Int × Int) (l : List (Int × Int)) (x : Int) : rHas (p :: l) x = true ↔ (p.1 ≤ x ∧ x ≤ p.2) ∨ rHas l x = true := by simp [rHas]
theorem rHas_nil (x : Int) : ¬ rHas [] x = true := by simp [rHas]
/-- How many numbers are in ranges. -/
def rSum : List (Int × Int) → Int
  | [] => 0
  | p :: l => (p.2 - p.1 + 1) + rSum l
/-- A range laid into ranges. -/
def rIns (o : Int × Int) : List (Int × Int) → List (Int × Int)
  | [] => [o]
  | p :: l => if o.2 + 1 < p.1 then p :: rIns o l else if p.2 < o.1 - 1 then o :: p :: l else rIns (min o.1 p.1, max o.2 p.2) l
theorem rIns_above {o p : Int × Int} {l : List (Int × Int)} (h : o.2 + 1 < p.1) : rIns o (p :: l) = p :: rIns o l := by rw [rIns, if_pos h]
theorem rIns_below {o p : Int × Int} {l : List (Int × Int)} (h : ¬ o.2 + 1 < p.1) (h2 : p.2 < o.1 - 1) : rIns o (p :: l) = o :: p :: l := by rw [rIns, if_neg h, if_pos h2]
theorem rIns_join {o p : Int × Int} {l : List (Int × Int)} (h : ¬ o.2 + 1 < p.1) (h2 : ¬ p.2 < o.1 - 1) : rIns o (p :: l) = rIns (min o.1 p.1, max o.2 p.2) l := by rw [rIns, if_neg h, if_neg h2]
theorem rIns_desc : ∀ {l : List (Int × Int)} {o : Int × Int} {b : Int}, rDesc b l → 0 ≤ o.1 → o.1 ≤ o.2 → o.2 < b → rDesc b (rIns o l)
  | [], o, b, _, h0, h1, h2 => ⟨h0, h1, h2, trivial⟩
  | p :: l, o, b, ⟨hp0, hp1, hp2, hl⟩, h0, h1, h2 => by
    rw [rIns]
    by_cases c1 : o.2 + 1 < p.1
    · rw [if_pos c1]
      exact ⟨hp0, hp1, hp2, rIns_desc hl h0 h1 (by omega)⟩
    · rw [if_neg c1]
      by_cases c2 : p.2 < o.1 - 1
      · rw [if_pos c2]
        exact ⟨h0, h1, h2, hp0, hp1, c2, hl⟩
      · rw [if_neg c2]
        exact rIns_desc (rDesc_mono hl (by omega)) (by simp only; omega) (by simp only; omega) (by simp only; omega)
theorem rIns_has : ∀ {l : List (Int × Int)} {o : Int × Int} {b : Int}, rDesc b l → o.1 ≤ o.2 → ∀ x, rHas (rIns o l) x = true ↔ (o.1 ≤ x ∧ x ≤ o.2) ∨ rHas l x = true
  | [], o, b, _, h1, x => by simp [rIns, rHas]
  | p :: l, o, b, ⟨hp0, hp1, hp2, hl⟩, h1, x => by
    rw [rIns]
    by_cases c1 : o.2 + 1 < p.1
    · rw [if_pos c1, rHas_cons, rHas_cons, rIns_has hl h1]
      exact or_left_comm
    · rw [if_neg c1]
      by_cases c2 : p.2 < o.1 - 1
      · rw [if_pos c2, rHas_cons]
      · rw [if_neg c2, rIns_has hl (by simp only; omega), rHas_cons]
        simp only
        constructor
        · rintro (h | h)
          · by_cases hx : o.1 ≤ x ∧ x ≤ o.2
            · exact .inl hx
            · exact .inr (.inl (by omega))
          · exact .inr (.inr h)
        · rintro (h | h | h)
          · exact .inl (by omega)
          · exact .inl (by omega)
          · exact .inr h
theorem rHas_bound : ∀ {l : List (Int × Int)} {b : Int} {x : Int}, rDesc b l → rHas l x = true → 0 ≤ x ∧ x < b
  | [], b, x, _, h => absurd h (rHas_nil x)
  | p :: l, b, x, ⟨hp0, hp1, hp2, hl⟩, h => by
    rcases (rHas_cons p l x).1 h with h | h
    · omega
    · have := rHas_bound hl h
      omega
/-- Ranges that have the same numbers are the same. -/
theorem rSame_of : ∀ {l m : List (Int × Int)} {b c : Int}, rDesc b l → rDesc c m → (∀ x, rHas l x = true ↔ rHas m x = true) → l = m
  | [], [], _, _, _, _, _ => rfl
  | [], q :: m, _, _, _, ⟨_, hq, _, _⟩, h => absurd ((h q.1).2 ((rHas_cons q m _).2 (.inl ⟨Int.le_refl _, hq⟩))) (rHas_nil _)
  | p :: l, [], _, _, ⟨_, hp, _, _⟩, _, h => absurd ((h p.1).1 ((rHas_cons p l _).2 (.inl ⟨Int.le_refl _, hp⟩))) (rHas_nil _)
  | p :: l, q :: m, b, c, ⟨hp0, hp1, hp2, hl⟩, ⟨hq0, hq1, hq2, hm⟩, h => by
    have hup : ∀ {p : Int × Int} {l : List (Int × Int)} {x : Int}, p.1 ≤ p.2 → rDesc (p.1 - 1) l → rHas (p :: l) x = true → (p.1 ≤ x ∧ x ≤ p.2) ∨ (x < p.1 - 1 ∧ rHas l x = true) := by
      intro p l x hp hl hx
      rcases (rHas_cons p l x).1 hx with hx | hx
      · exact .inl hx
      · exact .inr ⟨(rHas_bound hl hx).2, hx⟩
    have e1 := hup hq1 hm ((h p.2).1 ((rHas_cons p l _).2 (.inl ⟨hp1, Int.le_refl _⟩)))
    have e2 := hup hp1 hl ((h q.2).2 ((rHas_cons q m _).2 (.inl ⟨hq1, Int.le_refl _⟩)))
    have e3 : p.2 = q.2 := by omega
    have e4 : ¬ p.1 < q.1 := by
      intro hlt
      have := hup hq1 hm ((h (q.1 - 1)).1 ((rHas_cons p l _).2 (.inl ⟨by omega, by omega⟩)))
      omega
    have e5 : ¬ q.1 < p.1 := by
      intro hlt
      have := hup hp1 hl ((h (p.1 - 1)).2 ((rHas_cons q m _).2 (.inl ⟨by omega, by omega⟩)))
      omega
    have e6 : p.1 = q.1 := by omega
    have e : p = q := Prod.ext e6 e3
    subst e
    congr 1
    refine rSame_of hl hm fun x => ⟨fun hx => ?_, fun hx => ?_⟩
    · rcases hup hp1 hm ((h x).1 ((rHas_cons p l x).2 (.inr hx))) with h2 | h2
      · have := (rHas_bound hl hx).2; omega
      · exact h2.2
    · rcases hup hp1 hl ((h x).2 ((rHas_cons p m x).2 (.inr hx))) with h2 | h2
      · have := (rHas_bound hm hx).2; omega
      · exact h2.2
theorem rIns_there {l : List (Int × Int)} {b n : Int} (hl : rDesc b l) (h : rHas l n = true) : rIns (n, n) l = l := by
  have hb := rHas_bound hl h
  refine rSame_of (rIns_desc hl hb.1 (Int.le_refl _) hb.2) hl fun x => ?_
  rw [rIns_has hl (Int.le_refl _)]
  constructor
  · rintro (hx | hx)
    · obtain rfl : x = n := by simp only at hx; omega
      exact h
    · exact hx
  · exact .inr
theorem rIns_sum : ∀ {l : List (Int × Int)} {o : Int × Int} {b : Int}, rDesc b l → o.1 ≤ o.2 → (∀ x, o.1 ≤ x → x ≤ o.2 → ¬ rHas l x = true) → rSum (rIns o l) = rSum l + (o.2 - o.1 + 1)
  | [], o, b, _, h1, _ => by simp [rIns, rSum]
  | p :: l, o, b, ⟨hp0, hp1, hp2, hl⟩, h1, hx => by
    have hx2 : ∀ x, o.1 ≤ x → x ≤ o.2 → ¬ rHas l x = true := fun x h2 h3 h4 => hx x h2 h3 ((rHas_cons p l x).2 (.inr h4))
    rw [rIns]
    by_cases c1 : o.2 + 1 < p.1
    · rw [if_pos c1, rSum, rIns_sum hl h1 hx2, rSum]
      omega
    · rw [if_neg c1]
      by_cases c2 : p.2 < o.1 - 1
      · rw [if_pos c2, rSum, rSum]
        omega
      · rw [if_neg c2, rIns_sum hl (by simp only; omega)]
        · have c3 : p.2 < o.1 ∨ o.2 < p.1 := by
            have h3 := hx (max o.1 p.1)
            by_cases h4 : p.2 < o.1
            · exact .inl h4
            · by_cases h5 : o.2 < p.1
              · exact .inr h5
              · exact absurd ((rHas_cons p l _).2 (.inl ⟨by omega, by omega⟩)) (h3 (by omega) (by omega))
          simp only [rSum]
          omega
        · simp only
          intro x h2 h3 h4
          have h5 := (rHas_bound hl h4).2
          have h6 : x < o.1 := by
            apply Int.not_le.1
            intro h7
            exact hx2 x h7 (by omega) h4
          omega
theorem rSum_len : ∀ {l : List (Int × Int)} {b : Int}, rDesc b l → (l.length : Int) ≤ rSum l
  | [], _, _ => by simp [rSum]
  | p :: l, b, ⟨hp0, hp1, hp2, hl⟩ => by
    have := rSum_len hl
    rw [rSum, List.length_cons]
    omega
theorem rIns_len : ∀ (l : List (Int × Int)) (o : Int × Int), (rIns o l).length ≤ l.length + 1
  | [], o => by simp [rIns]
  | p :: l, o => by
    rw [rIns]
    by_cases c1 : o.2 + 1 < p.1
    · rw [if_pos c1]; have := rIns_len l o; simpa using this
    · rw [if_neg c1]
      by_cases c2 : p.2 < o.1 - 1
      · rw [if_pos c2]; simp
      · rw [if_neg c2]; have := rIns_len l (min o.1 p.1, max o.2 p.2); simp; omega
theorem rDesc_take : ∀ {l : List (Int × Int)} {b : Int} (k : Nat), rDesc b l → rDesc b (l.take k)
  | [], b, k, _ => by rw [List.take_nil]; trivial
  | p :: l, b, 0, _ => trivial
  | p :: l, b, k + 1, ⟨h1, h2, h3, h4⟩ => ⟨h1, h2, h3, rDesc_take k h4⟩
/-- Ranges with a number. -/
def rAdd (l : List (Int × Int)) (n : Int) : List (Int × Int) := if 0 ≤ n ∧ n ≤ 4611686018427387903 then (rIns (n, n) (rOf l)).take 16 else rOf l
theorem rAdd_ok (l : List (Int × Int)) (n : Int) : rOk (rAdd l n) = true := by
  have h := rOf_desc l
  rw [rOk, Bool.and_eq_true, rDescB_iff, decide_eq_true_iff, rAdd]
  by_cases c : 0 ≤ n ∧ n ≤ 4611686018427387903
  · rw [if_pos c]
    exact ⟨rDesc_take _ (rIns_desc h.1 c.1 (Int.le_refl _) (by simp only; omega)), by rw [List.length_take]; omega⟩
  · rw [if_neg c]
    exact h
/-- Ranges of numbers. -/
def rOfs (l : List Int) : List (Int × Int) := l.foldl rAdd []
theorem rOfs_snoc (l : List Int) (n : Int) : rOfs (l ++ [n]) = rAdd (rOfs l) n := by simp [rOfs]
theorem rOfs_ok (l : List Int) : rOk (rOfs l) = true := by
  rcases List.eq_nil_or_concat l with h | ⟨m, n, h⟩
  · subst h; rfl
  · rw [h, List.concat_eq_append, rOfs_snoc]; exact rAdd_ok _ _
end Go.Proofs.Ytgebebdapfnmpaa
