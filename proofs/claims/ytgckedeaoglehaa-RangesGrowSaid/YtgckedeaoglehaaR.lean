/- Plain laws of ranges: what a number that is added leaves; what many leave, in whatever order. -/
import Derived.Test.YtgckedeaoglehaaF
namespace Go.Proofs.Ytgckedeaoglehaa
set_option linter.unusedVariables false
set_option linter.unusedSimpArgs false

theorem ins_len_one : ∀ (l : List (Int × Int)) (o : Int × Int), (rIns o l).length = l.length + 1 → ∃ k, k ≤ l.length ∧ rIns o l = l.take k ++ o :: l.drop k
  | [], o, _ => ⟨0, by simp, by simp [rIns]⟩
  | p :: l, o, h => by
    by_cases c1 : o.2 + 1 < p.1
    · rw [rIns_above c1] at h ⊢
      obtain ⟨k, hk, e⟩ := ins_len_one l o (by simpa using h)
      exact ⟨k + 1, by simpa using hk, by rw [e]; simp⟩
    · by_cases c2 : p.2 < o.1 - 1
      · rw [rIns_below c1 c2]
        exact ⟨0, by simp, by simp⟩
      · rw [rIns_join c1 c2] at h
        have := rIns_len l (min o.1 p.1, max o.2 p.2)
        simp only [List.length_cons] at h
        omega
theorem ins_pos : ∀ (l : List (Int × Int)) (o : Int × Int), 0 < (rIns o l).length
  | [], o => by simp [rIns]
  | p :: l, o => by
    by_cases c1 : o.2 + 1 < p.1
    · rw [rIns_above c1]; simp
    · by_cases c2 : p.2 < o.1 - 1
      · rw [rIns_below c1 c2]; simp
      · rw [rIns_join c1 c2]; exact ins_pos l _
theorem low_le {A : List (Int × Int)} {b : Int} (h : rDesc b A) (h0 : A.length - 1 < A.length) {x : Int} (hx : rHas A x = true) : A[A.length - 1].1 ≤ x := by
  obtain ⟨p, hp, hq⟩ := List.any_eq_true.1 hx
  simp only [decide_eq_true_iff] at hq
  have e1 := (split_at h0).1
  rw [show A.length - 1 + 1 = A.length from by omega, List.drop_length] at e1
  rw [e1] at hp
  rcases List.mem_append.1 hp with hp | hp
  · rw [e1] at h
    have := rDesc_two h p hp A[A.length - 1] (List.mem_singleton_self _)
    have := rDesc_mem h A[A.length - 1] (List.mem_append_right _ (List.mem_singleton_self _))
    omega
  · rw [List.mem_singleton] at hp
    rw [← hp]
    exact hq.1
theorem rHas_append (A B : List (Int × Int)) (x : Int) : rHas (A ++ B) x = true ↔ rHas A x = true ∨ rHas B x = true := by simp [rHas]
theorem rHas_single (n x : Int) : rHas [(n, n)] x = true ↔ x = n := by
  simp only [rHas, List.any_cons, List.any_nil, Bool.or_false, decide_eq_true_iff]
  omega

/-- What ranges with a number have. -/
theorem has_law {l : List (Int × Int)} {n m : Int} (hl : rOk l = true) (hn : 0 ≤ n ∧ n ≤ 4611686018427387903) (A : List (Int × Int)) (hA : A = rAdd l n) :
    0 < A.length ∧ ∀ h0 : A.length - 1 < A.length,
      (rHas A n = true ∨ (l.length = 16 ∧ A.length = 16) ∧ n < A[A.length - 1].1) ∧
      ((rHas A m = true ↔ rHas l m = true ∨ m = n) ∨ (l.length = 16 ∧ A.length = 16) ∧ m < A[A.length - 1].1 ∧ rHas A m = false) ∧
      ((rHas l n = true ∨ (l.length = 16 ∧ A.length = 16) ∧ n < A[A.length - 1].1) ↔ A = l) := by
  obtain ⟨hd, hlen⟩ := rOk_desc hl
  have hZ := rIns_desc (o := (n, n)) hd hn.1 (Int.le_refl _) (by simp only; omega)
  have hZh := rIns_has (o := (n, n)) hd (Int.le_refl _)
  have hZl := rIns_len l (n, n)
  have hZp := ins_pos l (n, n)
  rw [rAdd, if_pos hn, rOf_ok hl] at hA
  have hin : rHas (rIns (n, n) l) n = true := (hZh n).2 (.inl ⟨Int.le_refl _, Int.le_refl _⟩)
  by_cases h16 : (rIns (n, n) l).length ≤ 16
  · rw [List.take_of_length_le h16] at hA
    subst hA
    refine ⟨hZp, fun h0 => ⟨.inl hin, .inl ?_, ?_⟩⟩
    · rw [hZh m]
      simp only
      constructor
      · rintro (h | h)
        · exact .inr (by omega)
        · exact .inl h
      · rintro (h | h)
        · exact .inr h
        · exact .inl (by omega)
    · constructor
      · rintro (h | h)
        · exact rIns_there hd h
        · have := low_le hZ h0 hin
          omega
      · intro h
        rw [h] at hin
        exact .inl hin
  · have hl16 : l.length = 16 := by omega
    obtain ⟨k, hk, e⟩ := ins_len_one l (n, n) (by omega)
    have hnl : ¬ rHas l n = true := by
      intro h
      have := rIns_there hd h
      rw [this] at h16
      omega
    by_cases hk16 : k = 16
    · rw [hk16, List.take_of_length_le (by omega), List.drop_of_length_le (by omega)] at e
      rw [e, List.take_append_of_le_length (by omega), List.take_of_length_le (by omega)] at hA
      subst hA
      refine ⟨by omega, fun h0 => ?_⟩
      have hlow : n < A[A.length - 1].1 := by
        rw [e] at hZ
        have := rDesc_two hZ A[A.length - 1] (List.getElem_mem h0) (n, n) (List.mem_singleton_self _)
        simp only at this
        omega
      refine ⟨.inr ⟨⟨hl16, hl16⟩, hlow⟩, ?_, ?_⟩
      · by_cases hm : m = n
        · subst hm
          exact .inr ⟨⟨hl16, hl16⟩, hlow, by simpa using hnl⟩
        · exact .inl ⟨fun h => .inl h, fun h => h.resolve_right hm⟩
      · exact ⟨fun _ => rfl, fun _ => .inr ⟨⟨hl16, hl16⟩, hlow⟩⟩
    · have hkl : k < l.length := by omega
      have hA2 : A = l.take k ++ (n, n) :: (l.drop k).take (15 - k) := by
        rw [hA, e, List.take_append, List.length_take, Nat.min_eq_left hk, List.take_of_length_le (by rw [List.length_take]; omega), show 16 - k = (15 - k) + 1 from by omega, List.take_succ_cons]
      have hAl : A.length = 16 := by rw [hA, List.length_take]; omega
      have hAd : rDesc 4611686018427387904 A := by rw [hA]; exact rDesc_take _ hZ
      have hAn : rHas A n = true := by
        rw [hA2, rHas_append]
        exact .inr ((rHas_cons _ _ _).2 (.inl ⟨Int.le_refl _, Int.le_refl _⟩))
      obtain ⟨q, hq⟩ : ∃ q, rIns (n, n) l = A ++ [q] := by
        have hd1 : (rIns (n, n) l).drop 16 = [(rIns (n, n) l)[16]'(by omega)] := by
          rw [List.drop_eq_getElem_cons (by omega), List.drop_of_length_le (by omega)]
        exact ⟨_, by rw [hA, ← hd1, List.take_append_drop]⟩
      refine ⟨by omega, fun h0 => ⟨.inl hAn, ?_, ?_⟩⟩
      · have hm2 := hZh m
        rw [hq, rHas_append] at hm2
        by_cases hqm : rHas [q] m = true
        · right
          have hlow : m < A[A.length - 1].1 := by
            rw [hq] at hZ
            have := rDesc_two hZ A[A.length - 1] (List.getElem_mem h0) q (List.mem_singleton_self _)
            simp [rHas] at hqm
            omega
          refine ⟨⟨hl16, hAl⟩, hlow, ?_⟩
          cases hc : rHas A m with
          | false => rfl
          | true => have := low_le hAd h0 hc; omega
        · left
          constructor
          · intro h
            rcases hm2.1 (.inl h) with h | h
            · simp only at h
              exact .inr (by omega)
            · exact .inl h
          · intro h
            have h2 : (n, n).1 ≤ m ∧ m ≤ (n, n).2 ∨ rHas l m = true := by
              simp only
              rcases h with h | h
              · exact .inr h
              · exact .inl (by omega)
            rcases hm2.2 h2 with h | h
            · exact h
            · exact absurd h hqm
      · constructor
        · rintro (h | h)
          · exact absurd h hnl
          · have := low_le hAd h0 hAn
            omega
        · intro h
          rw [h] at hAn
          exact absurd hAn hnl

/-! ### Many numbers -/
/-- Ranges of numbers, however many ranges they are. -/
def rAll (l : List Int) : List (Int × Int) := l.foldl (fun r n => rIns (n, n) r) []
theorem rAll_snoc (l : List Int) (n : Int) : rAll (l ++ [n]) = rIns (n, n) (rAll l) := by simp [rAll]
/-- Numbers that ranges may have. -/
def nWf (l : List Int) : Prop := ∀ x ∈ l, 0 ≤ x ∧ x ≤ 4611686018427387903
theorem rAllF_law : ∀ (l : List Int) (r : List (Int × Int)), nWf l → rDesc 4611686018427387904 r → rDesc 4611686018427387904 (l.foldl (fun r n => rIns (n, n) r) r) ∧
    (∀ x, rHas (l.foldl (fun r n => rIns (n, n) r) r) x = true ↔ rHas r x = true ∨ x ∈ l) ∧ rSum r ≤ rSum (l.foldl (fun r n => rIns (n, n) r) r) ∧ rSum (l.foldl (fun r n => rIns (n, n) r) r) ≤ rSum r + l.length
  | [], r, _, hr => ⟨hr, fun x => by simp, Int.le_refl _, by simp⟩
  | n :: l, r, hl, hr => by
    have hn := hl n (List.mem_cons_self ..)
    have h1 := rIns_desc (o := (n, n)) hr hn.1 (Int.le_refl _) (by simp only; omega)
    have hs : rSum r ≤ rSum (rIns (n, n) r) ∧ rSum (rIns (n, n) r) ≤ rSum r + 1 := by
      by_cases hh : rHas r n = true
      · rw [rIns_there hr hh]; omega
      · have hd : ∀ x, (n, n).1 ≤ x → x ≤ (n, n).2 → ¬ rHas r x = true := by
          intro x h2 h3
          obtain rfl : x = n := by simp only at h2 h3; omega
          exact hh
        rw [rIns_sum hr (Int.le_refl _) hd]
        simp only
        omega
    obtain ⟨h2, h3, h4, h5⟩ := rAllF_law l (rIns (n, n) r) (fun x hx => hl x (List.mem_cons_of_mem _ hx)) h1
    refine ⟨h2, fun x => ?_, by simp only [List.foldl_cons]; omega, by simp only [List.foldl_cons, List.length_cons]; omega⟩
    simp only [List.foldl_cons]
    rw [h3, rIns_has hr (Int.le_refl _)]
    simp only [List.mem_cons]
    constructor
    · rintro ((hx | hx) | hx)
      · exact .inr (.inl (by omega))
      · exact .inl hx
      · exact .inr (.inr hx)
    · rintro (hx | hx | hx)
      · exact .inl (.inr hx)
      · exact .inl (.inl (by omega))
      · exact .inr hx
theorem rAll_law {l : List Int} (hl : nWf l) : rDesc 4611686018427387904 (rAll l) ∧ (∀ x, rHas (rAll l) x = true ↔ x ∈ l) ∧ rSum (rAll l) ≤ l.length := by
  obtain ⟨h1, h2, _, h4⟩ := rAllF_law l [] hl trivial
  exact ⟨h1, fun x => by unfold rAll; rw [h2]; simp [rHas], by unfold rAll; simpa [rSum] using h4⟩
theorem rAll_take {l : List Int} (hl : nWf l) {i : Nat} (h : i < l.length) : rSum (rAll (l.take (i + 1))) = rSum (rAll (l.take i)) + if l[i] ∈ l.take i then 0 else 1 := by
  have hw : nWf (l.take i) := fun x hx => hl x (List.mem_of_mem_take hx)
  obtain ⟨h1, h2, _⟩ := rAll_law hw
  rw [List.take_succ_eq_append_getElem h, rAll_snoc]
  by_cases hm : l[i] ∈ l.take i
  · rw [if_pos hm, rIns_there h1 ((h2 _).2 hm)]
    omega
  · rw [if_neg hm, rIns_sum h1 (Int.le_refl _)]
    · simp only; omega
    · intro x hx1 hx2 hh
      obtain rfl : x = l[i] := by simp only at hx1 hx2; omega
      exact hm ((h2 _).1 hh)
theorem rOfsF_all : ∀ (l : List Int) (r : List (Int × Int)), nWf l → rDesc 4611686018427387904 r → rSum (l.foldl (fun r n => rIns (n, n) r) r) ≤ 16 → l.foldl rAdd r = l.foldl (fun r n => rIns (n, n) r) r
  | [], r, _, _, _ => rfl
  | n :: l, r, hl, hr, hs => by
    have hn := hl n (List.mem_cons_self ..)
    have h1 := rIns_desc (o := (n, n)) hr hn.1 (Int.le_refl _) (by simp only; omega)
    have hl2 : nWf l := fun x hx => hl x (List.mem_cons_of_mem _ hx)
    obtain ⟨_, _, h4, _⟩ := rAllF_law l (rIns (n, n) r) hl2 h1
    obtain ⟨_, _, h5, _⟩ := rAllF_law (n :: l) r hl hr
    simp only [List.foldl_cons] at hs h5 ⊢
    have hlen := rSum_len hr
    have hlen2 := rSum_len h1
    have hok : rOk r = true := by
      rw [rOk, Bool.and_eq_true, rDescB_iff, decide_eq_true_iff]
      exact ⟨hr, by omega⟩
    have e : rAdd r n = rIns (n, n) r := by
      rw [rAdd, if_pos hn, rOf_ok hok, List.take_of_length_le (by omega)]
    rw [e]
    exact rOfsF_all l _ hl2 h1 hs
theorem rOfs_all {l : List Int} (hl : nWf l) (hs : rSum (rAll l) ≤ 16) : rOfs l = rAll l := rOfsF_all l [] hl trivial hs
theorem rAll_same {l m : List Int} (hl : nWf l) (hm : nWf m) (h : ∀ x, x ∈ l ↔ x ∈ m) : rAll l = rAll m := by
  obtain ⟨h1, h2, _⟩ := rAll_law hl
  obtain ⟨h3, h4, _⟩ := rAll_law hm
  exact rSame_of h1 h3 fun x => by rw [h2, h4, h]
/-- The order does not matter. -/
theorem order_law {a b : List Int} (ha : nWf a) (hl : a.length ≤ 16) (hb : ∀ x ∈ b, x ∈ a) : rOfs (b ++ a) = rOfs a ∧ rMany (rOf (rOfs a)) = rSum (rAll a) := by
  have hba : nWf (b ++ a) := fun x hx => by
    rcases List.mem_append.1 hx with h | h
    · exact ha x (hb x h)
    · exact ha x h
  obtain ⟨h1, h2, h3⟩ := rAll_law ha
  have e : rAll (b ++ a) = rAll a := rAll_same hba ha fun x => by
    rw [List.mem_append]
    exact ⟨fun h => h.elim (hb x) id, .inr⟩
  have e2 := rOfs_all ha (by omega)
  refine ⟨by rw [e2, rOfs_all hba (by rw [e]; omega), e], ?_⟩
  rw [e2, rOf_ok (by rw [rOk, Bool.and_eq_true, rDescB_iff, decide_eq_true_iff]; exact ⟨h1, by have := rSum_len h1; omega⟩)]
  have : 0 ≤ rSum (rAll a) := by have := rSum_len h1; omega
  unfold rMany
  omega
/-- Numbers that follow one another are one range. -/
theorem grow_law {l : List Int} {f k : Int} (hf : 0 ≤ f) (hk : 1 ≤ k) (hfk : f + k ≤ 4611686018427387904) (hl : l.length ≤ 16) (h : ∀ x, x ∈ l ↔ f ≤ x ∧ x ≤ f + k - 1) : rOfs l = [(f, f + k - 1)] := by
  have hw : nWf l := fun x hx => by have := (h x).1 hx; omega
  obtain ⟨h1, h2, h3⟩ := rAll_law hw
  rw [rOfs_all hw (by omega)]
  refine rSame_of h1 (c := 4611686018427387904) ⟨hf, by simp only; omega, by simp only; omega, trivial⟩ fun x => ?_
  rw [h2, h, rHas_cons]
  simp [rHas]
end Go.Proofs.Ytgckedeaoglehaa
