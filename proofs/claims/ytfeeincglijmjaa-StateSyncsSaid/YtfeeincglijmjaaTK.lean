/- Plain laws of shown screens: pushed, told to have come. -/
import Derived.Test.YtfeeincglijmjaaTG
namespace Go.Proofs.Ytfeeincglijmjaa
open Go.RowKit
set_option linter.unusedVariables false
set_option linter.unusedSimpArgs false

theorem sOkF_weak : ∀ {l : List (Int × Scr)} {a b : Int}, b ≤ a → sOkF a l = true → sOkF b l = true
  | [], a, b, _, _ => rfl
  | x :: l, a, b, h, hs => by
    simp only [sOkF, Bool.and_eq_true, decide_eq_true_eq] at hs ⊢
    exact ⟨⟨⟨by omega, hs.1.1.2⟩, hs.1.2⟩, hs.2⟩
theorem sOkF_drop : ∀ {l : List (Int × Scr)} {a : Int} (k : Nat), sOkF a l = true → sOkF a (l.drop k) = true
  | l, a, 0, h => h
  | [], a, k + 1, h => rfl
  | x :: l, a, k + 1, h => by
    have h2 := h
    simp only [sOkF, Bool.and_eq_true, decide_eq_true_eq] at h2
    rw [List.drop_succ_cons]
    exact sOkF_drop k (sOkF_weak (by omega) h2.2)
theorem sOkF_erase {l : List (Int × Scr)} {a : Int} (h : sOkF a l = true) : sOkF a (l.eraseIdx 1) = true := by
  rcases l with _ | ⟨x, _ | ⟨y, r⟩⟩
  · exact h
  · exact h
  · simp only [sOkF, Bool.and_eq_true, decide_eq_true_eq] at h
    show sOkF a (x :: r) = true
    simp only [sOkF, Bool.and_eq_true, decide_eq_true_eq]
    exact ⟨h.1, sOkF_weak (by omega) h.2.2⟩
theorem sOkF_snoc : ∀ {l : List (Int × Scr)} {a k : Int} {s : Scr}, sOkF a l = true → (∀ x, l.getLast? = some x → x.1 < k) → a < k → k ≤ 4611686018427387903 → gOk s = true → sOkF a (l ++ [(k, s)]) = true
  | [], a, k, s, _, _, h1, h2, h3 => by
    simp only [List.nil_append, sOkF, Bool.and_eq_true, decide_eq_true_eq]
    exact ⟨⟨⟨h1, h2⟩, h3⟩, trivial⟩
  | [x], a, k, s, h, hl, h1, h2, h3 => by
    have := hl x rfl
    simp only [sOkF, Bool.and_eq_true, decide_eq_true_eq] at h
    simp only [List.cons_append, List.nil_append, sOkF, Bool.and_eq_true, decide_eq_true_eq]
    exact ⟨h.1, ⟨⟨this, h2⟩, h3⟩, trivial⟩
  | x :: y :: l, a, k, s, h, hl, h1, h2, h3 => by
    have hh := h
    rw [sOkF] at hh
    simp only [Bool.and_eq_true, decide_eq_true_eq] at hh
    have hx : x.1 < k := by
      have h4 := hh.2
      have hm : ∀ z ∈ y :: l, x.1 < z.1 := fun z hz => (sOkF_mem h4 z hz).1
      obtain ⟨z, hz⟩ : ∃ z, (y :: l).getLast? = some z := ⟨_, List.getLast?_eq_some_getLast (by simp)⟩
      have := hl z (by rw [List.getLast?_cons_cons]; exact hz)
      have := hm z (List.mem_of_getLast? hz)
      omega
    rw [List.cons_append, sOkF]
    simp only [Bool.and_eq_true, decide_eq_true_eq]
    exact ⟨hh.1, sOkF_snoc hh.2 (fun z hz => hl z (by rw [List.getLast?_cons_cons]; exact hz)) hx h2 h3⟩
theorem sOkF_lt : ∀ {l : List (Int × Scr)} {a : Int}, sOkF a l = true → ∀ i j (hi : i < l.length) (hj : j < l.length), i < j → l[i].1 < l[j].1
  | x :: l, a, h, 0, j + 1, _, hj, _ => by
    simp only [sOkF, Bool.and_eq_true, decide_eq_true_eq] at h
    simp only [List.getElem_cons_zero, List.getElem_cons_succ]
    exact (sOkF_mem h.2 _ (List.getElem_mem _)).1
  | x :: l, a, h, i + 1, j + 1, hi, hj, hij => by
    simp only [sOkF, Bool.and_eq_true, decide_eq_true_eq] at h
    simp only [List.getElem_cons_succ]
    exact sOkF_lt h.2 i j _ _ (by omega)
theorem sCheck_mk {l : List (Int × Scr)} (h : sOkF (-1) l = true) (h0 : 0 < l.length) (h8 : l.length ≤ 8) : sCheck l = true := by
  unfold sCheck
  rw [h]
  simp [h0, h8]
theorem sCheck_ok {l : List (Int × Scr)} (h : sCheck l = true) : sOkF (-1) l = true := by
  simp only [sCheck, Bool.and_eq_true] at h
  exact h.1
/-- The last number stands above all. -/
theorem last_top {l : List (Int × Scr)} {x : Int × Scr} (h : sCheck l = true) (hx : l.getLast? = some x) : -1 < x.1 ∧ x.1 ≤ 4611686018427387903 ∧ gOk x.2 = true := (sCheck_parts h).2.2 x (List.mem_of_getLast? hx)
/-- One more, and one less if they are too many. -/
theorem short_more {l : List (Int × Scr)} {k : Int} {s : Scr} (h : sCheck l = true) (hl : ∀ x, l.getLast? = some x → x.1 < k) (hk : k ≤ 4611686018427387903) (hs : gOk s = true) :
    sCheck (dShort (l ++ [(k, s)])) = true ∧ (dShort (l ++ [(k, s)])).getLast? = some (k, s) ∧ (dShort (l ++ [(k, s)])).head? = l.head? ∧ 1 < (dShort (l ++ [(k, s)])).length := by
  obtain ⟨h0, h8, hm⟩ := sCheck_parts h
  obtain ⟨x, hx⟩ : ∃ x, l.getLast? = some x := by
    cases hq : l.getLast? with
    | none => rw [List.getLast?_eq_none_iff] at hq; subst hq; exact absurd h0 (by decide)
    | some x => exact ⟨x, rfl⟩
  have hk0 : -1 < k := by have := hl x hx; have := (last_top h hx).1; omega
  have hsn := sOkF_snoc (sCheck_ok h) hl hk0 hk hs
  have hhd : (l ++ [(k, s)]).head? = l.head? := by
    cases l with
    | nil => exact absurd h0 (by decide)
    | cons a r => rfl
  unfold dShort
  split
  · rename_i h9
    exact ⟨sCheck_mk hsn (by simp) h9, by simp, hhd, by simp only [List.length_append, List.length_cons, List.length_nil]; omega⟩
  · rename_i h9
    simp only [List.length_append, List.length_cons, List.length_nil] at h9
    have hlen : ((l ++ [(k, s)]).eraseIdx 1).length = 8 := by rw [List.length_eraseIdx]; simp only [List.length_append, List.length_cons, List.length_nil]; rw [if_pos (by omega)]; omega
    rcases l with _ | ⟨a, _ | ⟨b, r⟩⟩
    · exact absurd h0 (by decide)
    · simp only [List.length_cons, List.length_nil] at h9; omega
    · have e : ((a :: b :: r) ++ [(k, s)]).eraseIdx 1 = a :: (r ++ [(k, s)]) := rfl
      refine ⟨sCheck_mk (sOkF_erase hsn) (by omega) (by omega), ?_, ?_, by omega⟩
      · rw [e, ← List.cons_append, List.getLast?_append]
        rfl
      · rw [e]
        rfl
theorem same_eq {s t : Scr} (h : gSame s t = true) : s = t := gSame_iff.1 h
/-- A screen is pushed. -/
theorem push_grows {l : List (Int × Scr)} {s : Scr} {x : Int × Scr} (h : sCheck l = true) (hx : l.getLast? = some x) (hs : gOk s = true) (hm : x.1 < 4611686018427387903) :
    sCheck (dPush l s) = true ∧ (∃ k, (dPush l s).getLast? = some (k, s) ∧ x.1 ≤ k ∧ k ≤ x.1 + 1) ∧ (dPush l s).head? = l.head? := by
  unfold dPush
  rw [if_pos h, hx]
  simp only
  by_cases hst : dStill x s = true
  · rw [if_pos hst]
    have : gSame x.2 s = true := by
      unfold dStill at hst
      rw [hs] at hst
      simp only [Bool.not_true, Bool.false_or, Bool.or_eq_true, beq_iff_eq] at hst
      rcases hst with h1 | h1
      · exact h1
      · omega
    have e := same_eq this
    exact ⟨h, ⟨x.1, by rw [hx, ← e], Int.le_refl _, by omega⟩, rfl⟩
  · rw [if_neg hst]
    obtain ⟨h1, h2, h3, -⟩ := short_more (k := x.1 + 1) h (fun y hy => by rw [hx] at hy; injection hy with hy; subst hy; omega) (by omega) hs
    exact ⟨h1, ⟨_, h2, by omega, Int.le_refl _⟩, h3⟩
theorem find_at {l : List (Int × Scr)} {j : Nat} (h : sCheck l = true) (hj : j < l.length) : sFind l[j].1 l = j := by
  unfold sFind
  refine rIdx_at hj (by simp) (fun i hi hij => ?_)
  have := sOkF_lt (sCheck_ok h) i j hi hj hij
  simp
  omega
/-- One is told to have come. -/
theorem acked_at {l : List (Int × Scr)} {j : Nat} (h : sCheck l = true) (hj : j < l.length) : dAcked l l[j].1 = l.drop j ∧ sCheck (l.drop j) = true ∧ (l.drop j).head? = some l[j] ∧ (l.drop j).getLast? = l.getLast? := by
  have h8 := (sCheck_parts h).2.1
  refine ⟨?_, sCheck_mk (sOkF_drop j (sCheck_ok h)) (by rw [List.length_drop]; omega) (by rw [List.length_drop]; omega), ?_, ?_⟩
  · unfold dAcked
    rw [if_pos h, find_at h hj]
    congr 1
    omega
  · rw [List.head?_drop, List.getElem?_eq_getElem hj]
  · rw [List.getLast?_drop, if_neg (by omega)]
theorem new_gok {W H : Int} (h : (inB W 1 64 && inB H 1 64) = true) : gOk (newScr W H) = true := by
  rw [Bool.and_eq_true, inB_true, inB_true] at h
  obtain ⟨h1, h2⟩ := h
  have ar := area (W := W) (H := H) ⟨h1, h2⟩
  have hb : ∀ n, (blanks n).length = n := fun n => by simp [blanks]
  have hc : ∀ n, ∀ c ∈ blanks n, cOk c = true := fun n c hc => by
    rw [blanks, List.mem_replicate] at hc
    rw [hc.2]
    rfl
  simp only [gOk, gPlaces, gCur, gRows, gSaved, gSides, newScr, Bool.and_eq_true, inB_true, decide_eq_true_iff, mayB, hb, List.all_eq_true, Bool.false_eq_true, if_false, List.length_nil]
  refine ⟨⟨⟨⟨⟨h1, h2⟩, ⟨by omega, hc _⟩, by simp, by simp⟩, ?_⟩, ?_⟩, ?_⟩ <;> (first | omega | (simp; done) | (refine ⟨by omega, decide_eq_true ?_⟩; omega))
end Go.Proofs.Ytfeeincglijmjaa
