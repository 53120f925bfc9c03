/- Plain laws of the two ways in which a number is laid into ranges. -/
import Derived.Test.YtgebebdapfnmpaaRP
namespace Go.Proofs.Ytgebebdapfnmpaa
set_option linter.unusedVariables false
set_option linter.unusedSimpArgs false

theorem rDesc_mem : ∀ {l : List (Int × Int)} {b : Int}, rDesc b l → ∀ p ∈ l, 0 ≤ p.1 ∧ p.1 ≤ p.2 ∧ p.2 < b
  | [], _, _, p, hp => absurd hp (by simp)
  | q :: l, b, ⟨h1, h2, h3, h4⟩, p, hp => by
    rcases List.mem_cons.1 hp with rfl | hp
    · exact ⟨h1, h2, h3⟩
    · have := rDesc_mem h4 p hp
      exact ⟨this.1, this.2.1, by omega⟩
theorem rDesc_two : ∀ {U D : List (Int × Int)} {b : Int}, rDesc b (U ++ D) → ∀ u ∈ U, ∀ d ∈ D, d.2 < u.1 - 1
  | [], _, _, _, u, hu, _, _ => absurd hu (by simp)
  | p :: U, D, b, ⟨h1, h2, h3, h4⟩, u, hu, d, hd => by
    rcases List.mem_cons.1 hu with rfl | hu
    · exact (rDesc_mem h4 d (List.mem_append_right _ hd)).2.2
    · exact rDesc_two h4 u hu d hd
theorem rDesc_cut : ∀ {U D : List (Int × Int)} {d : Int × Int} {b : Int}, rDesc b (U ++ d :: D) → rDesc b (U ++ D)
  | [], D, d, b, ⟨h1, h2, h3, h4⟩ => rDesc_mono h4 (by omega)
  | p :: U, D, d, b, ⟨h1, h2, h3, h4⟩ => ⟨h1, h2, h3, rDesc_cut h4⟩
theorem rIns_skip {D : List (Int × Int)} {o : Int × Int} : ∀ {U : List (Int × Int)}, (∀ u ∈ U, o.2 + 1 < u.1) → rIns o (U ++ D) = U ++ rIns o D
  | [], _ => rfl
  | p :: U, h => by
    rw [List.cons_append, rIns_above (h p (List.mem_cons_self ..)), rIns_skip fun u hu => h u (List.mem_cons_of_mem _ hu), List.cons_append]

/-- What holds at the head of the loop that joins: the ranges so far, the place, and the one that grows. -/
structure JInv (F : List (Int × Int)) (b : Int) (out : List (Int × Int)) (k : Nat) (o : Int × Int) : Prop where
  desc : rDesc b out
  le : k ≤ out.length
  o0 : 0 ≤ o.1
  o1 : o.1 ≤ o.2
  o2 : o.2 < b
  up : ∀ u ∈ out.take k, o.2 ≤ u.2
  dn : ∀ d ∈ out.drop k, d.2 ≤ o.2
  eq : F = rIns o out

theorem split_at {out : List (Int × Int)} {k : Nat} (h : k < out.length) : out = out.take k ++ out[k] :: out.drop (k + 1) ∧ out.eraseIdx k = out.take k ++ out.drop (k + 1) ∧ (out.take k).length = k := by
  refine ⟨?_, List.eraseIdx_eq_take_drop_succ .., by rw [List.length_take]; omega⟩
  conv => lhs; rw [← List.take_append_drop k out]
  rw [List.drop_eq_getElem_cons h]

theorem JInv.raise {F : List (Int × Int)} {b : Int} {out : List (Int × Int)} {k : Nat} {o : Int × Int} (h : JInv F b out (k + 1) o) (hk : k < out.length) (c : out[k].1 ≤ o.2 + 1) :
    JInv F b (out.eraseIdx k) k (min o.1 out[k].1, max o.2 out[k].2) := by
  obtain ⟨e1, e2, e3⟩ := split_at hk
  have e4 : out.take (k + 1) = out.take k ++ [out[k]] := List.take_succ_eq_append_getElem hk
  have hu := h.up
  have hd := h.dn
  have hdesc := h.desc
  have heq := h.eq
  rw [e4] at hu
  rw [e2]
  generalize out.take k = U at *
  generalize out.drop (k + 1) = D at *
  generalize out[k] = u at *
  subst e1
  have hu1 : o.2 ≤ u.2 := hu u (by simp)
  have hm := rDesc_mem hdesc u (by simp)
  have h2 : ∀ p ∈ U, u.2 < p.1 - 1 := fun p hp => rDesc_two hdesc p hp u (by simp)
  have o1 := h.o1
  have o0 := h.o0
  refine ⟨rDesc_cut hdesc, by rw [List.length_append]; omega, by simp only; omega, by simp only; omega, by simp only; have := h.o2; omega, ?_, ?_, ?_⟩
  · rw [List.take_append_of_le_length (by omega), List.take_of_length_le (by omega)]
    intro p hp
    have := h2 p hp
    have := rDesc_mem hdesc p (by simp [hp])
    simp only
    omega
  · rw [List.drop_append_of_le_length (by omega), List.drop_of_length_le (by omega), List.nil_append]
    intro p hp
    have := hd p hp
    simp only
    omega
  · rw [heq, rIns_skip (fun p hp => by have := h2 p hp; omega), rIns_skip (fun p hp => by have := h2 p hp; simp only; omega), rIns_join (by omega) (by omega)]

theorem JInv.lower {F : List (Int × Int)} {b : Int} {out : List (Int × Int)} {k : Nat} {o : Int × Int} (h : JInv F b out k o) (hk : k < out.length) (c0 : ∀ j (hj : j < out.length), k = j + 1 → o.2 + 1 < out[j].1) (c : o.1 - 1 ≤ out[k].2) :
    JInv F b (out.eraseIdx k) k (min o.1 out[k].1, max o.2 out[k].2) := by
  obtain ⟨e1, e2, e3⟩ := split_at hk
  have hdesc := h.desc
  have hU : ∀ p ∈ out.take k, o.2 + 1 < p.1 := by
    rcases k with _ | j
    · simp
    · have hj : j < out.length := by omega
      have c1 := c0 j hj rfl
      have e4 : out.take (j + 1) = out.take j ++ [out[j]] := List.take_succ_eq_append_getElem hj
      rw [e4]
      intro p hp
      rcases List.mem_append.1 hp with hp | hp
      · rw [e1, e4, List.append_assoc] at hdesc
        have := rDesc_two hdesc p hp out[j] (List.mem_append_left _ (List.mem_singleton_self _))
        have := rDesc_mem hdesc out[j] (List.mem_append_right _ (List.mem_append_left _ (List.mem_singleton_self _)))
        omega
      · simp at hp
        rw [hp]
        exact c1
  have hu := h.up
  have hd := h.dn
  have heq := h.eq
  rw [List.drop_eq_getElem_cons hk] at hd
  rw [e2]
  clear c0
  generalize out.take k = U at *
  generalize out.drop (k + 1) = D at *
  generalize out[k] = u at *
  subst e1
  have hu1 : u.2 ≤ o.2 := hd u (by simp)
  have hm := rDesc_mem hdesc u (by simp)
  have o1 := h.o1
  have o0 := h.o0
  have o2 := h.o2
  refine ⟨rDesc_cut hdesc, by rw [List.length_append]; omega, by simp only; omega, by simp only; omega, by simp only; omega, ?_, ?_, ?_⟩
  · rw [List.take_append_of_le_length (by omega), List.take_of_length_le (by omega)]
    intro p hp
    have := hU p hp
    have := rDesc_mem hdesc p (by simp [hp])
    simp only
    omega
  · rw [List.drop_append_of_le_length (by omega), List.drop_of_length_le (by omega), List.nil_append]
    intro p hp
    have := hd p (by simp [hp])
    simp only
    omega
  · rw [heq, rIns_skip hU, rIns_skip (fun p hp => by have := hU p hp; simp only; omega), rIns_join (by omega) (by omega)]

theorem JInv.done {F : List (Int × Int)} {b : Int} {out : List (Int × Int)} {k : Nat} {o : Int × Int} (h : JInv F b out k o) (c0 : ∀ j (hj : j < out.length), k = j + 1 → o.2 + 1 < out[j].1) (c : ∀ hk : k < out.length, out[k].2 < o.1 - 1) :
    F = out.take k ++ o :: out.drop k := by
  have hdesc := h.desc
  have hle := h.le
  have hU : ∀ p ∈ out.take k, o.2 + 1 < p.1 := by
    rcases k with _ | j
    · simp
    · have hj : j < out.length := by omega
      have c1 := c0 j hj rfl
      have e4 : out.take (j + 1) = out.take j ++ [out[j]] := List.take_succ_eq_append_getElem hj
      have e1 := (split_at hj).1
      rw [e4]
      intro p hp
      rcases List.mem_append.1 hp with hp | hp
      · rw [e1] at hdesc
        have := rDesc_two hdesc p hp out[j] (List.mem_cons_self ..)
        have := rDesc_mem hdesc out[j] (List.mem_append_right _ (List.mem_cons_self ..))
        omega
      · simp at hp
        rw [hp]
        exact c1
  have heq := h.eq
  have o1 := h.o1
  conv at heq => rhs; rw [← List.take_append_drop k out]
  rw [heq, rIns_skip hU]
  congr 1
  by_cases hk : k < out.length
  · have c1 := c hk
    have hm := rDesc_mem hdesc out[k] (List.getElem_mem hk)
    rw [List.drop_eq_getElem_cons hk, rIns_below (by omega) c1]
  · rw [List.drop_of_length_le (by omega), rIns]

/-- At the loop's first head: the first range that lies below a number. -/
theorem JInv.start {l : List (Int × Int)} {b n : Int} {k : Nat} (hl : rDesc b l) (h0 : 0 ≤ n) (h1 : n < b) (hk : k ≤ l.length) (hlo : ∀ j (hj : j < l.length), j < k → n ≤ l[j].2) (hhi : ∀ hk : k < l.length, l[k].2 < n) :
    JInv (rIns (n, n) l) b l k (n, n) := by
  refine ⟨hl, hk, h0, Int.le_refl _, h1, ?_, ?_, rfl⟩
  · intro u hu
    obtain ⟨j, hj, rfl⟩ := List.getElem_of_mem hu
    rw [List.length_take] at hj
    rw [List.getElem_take]
    exact hlo j (by omega) (by omega)
  · intro d hd
    by_cases hkl : k < l.length
    · have hlt := hhi hkl
      obtain ⟨e1, _, _⟩ := split_at hkl
      rw [List.drop_eq_getElem_cons hkl] at hd
      rcases List.mem_cons.1 hd with rfl | hd
      · simp only; omega
      · have hl2 := hl
        rw [e1, List.append_cons] at hl2
        have := rDesc_two hl2 l[k] (List.mem_append_right _ (List.mem_singleton_self _)) d hd
        have := rDesc_mem hl l[k] (List.getElem_mem hkl)
        simp only
        omega
    · rw [List.drop_of_length_le (by omega)] at hd
      cases hd

/-- The document's loop: what is laid, what comes. -/
theorem own_above {o p : Int × Int} {l : List (Int × Int)} (h : o.2 + 1 < p.1) : rIns o (p :: l) = [p] ++ rIns o l := rIns_above h
end Go.Proofs.Ytgebebdapfnmpaa
