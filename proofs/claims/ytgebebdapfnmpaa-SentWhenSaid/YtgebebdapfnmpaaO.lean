/- The plain laws and the walk of SentWhen. -/
import Derived.Test.YtgebebdapfnmpaaN
namespace Go.Proofs.Ytgebebdapfnmpaa
open Go.RowKit
set_option linter.unusedVariables false
set_option linter.unusedSimpArgs false
attribute [local go_sem ↓] Go.wp_at_zero Go.wp_at_succ

/-- Packets each of which may be, behind a number. -/
def goodFrom : Int → List Pk → Prop
  | _, [] => True
  | was, p :: l => ¬ pBad was p ∧ goodFrom p.no l
theorem goodFrom_at : ∀ (l : List Pk) (was : Int), goodFrom was l ↔ ∀ i (h : i < l.length), ¬ pBad (if h0 : 0 < i then (l[i - 1]'(by omega)).no else was) l[i]
  | [], was => by simp [goodFrom]
  | p :: l, was => by
    rw [goodFrom, goodFrom_at l p.no]
    constructor
    · rintro ⟨h1, h2⟩ i hi
      cases i with
      | zero => exact h1
      | succ i =>
        have := h2 i (by simpa using hi)
        rw [dif_pos (by omega)]
        cases i with
        | zero => simpa using this
        | succ i => simpa using this
    · intro h
      refine ⟨h 0 (by simp), fun i hi => ?_⟩
      have := h (i + 1) (by simpa using hi)
      rw [dif_pos (by omega)] at this
      cases i with
      | zero => simpa using this
      | succ i => simpa using this
theorem goodFrom_mono : ∀ {l : List Pk} {a b : Int}, a ≤ b → goodFrom b l → goodFrom a l
  | [], _, _, _, _ => trivial
  | p :: l, a, b, h, ⟨h1, h2⟩ => ⟨fun hh => h1 (hh.imp_left fun x => by omega), h2⟩
theorem goodFrom_filter (f : Pk → Bool) : ∀ {l : List Pk} {was : Int}, goodFrom was l → goodFrom was (l.filter f)
  | [], _, h => h
  | p :: l, was, ⟨h1, h2⟩ => by
    rw [List.filter_cons]
    split
    · exact ⟨h1, goodFrom_filter f h2⟩
    · exact goodFrom_mono (Classical.byContradiction fun hh => h1 (.inl (by omega))) (goodFrom_filter f h2)
theorem pGood_filter (f : Pk → Bool) {l : List Pk} (h : pGood l) : pGood (l.filter f) := (goodFrom_at _ _).1 (goodFrom_filter f ((goodFrom_at _ _).2 h))
theorem pOk_filter (f : Pk → Bool) {l : List Pk} (h : pOk l) : pOk (l.filter f) := ⟨pGood_filter f h.1, Nat.le_trans (List.length_filter_le _ _) h.2⟩

/-- What is known of the time that When tells. -/
def whInv (x t : Int) (seen : List Pk) (a : Int × Bool) : Prop := (a.2 = false → ∀ p ∈ seen, ¬ p.no < x) ∧ (a.2 = true → (∃ p ∈ seen, p.no < x ∧ p.ti + t = a.1) ∧ ∀ p ∈ seen, p.no < x → a.1 ≤ p.ti + t)
theorem whInv_fold (x t : Int) : ∀ (l seen : List Pk) (a : Int × Bool), whInv x t seen a → whInv x t (seen ++ l) (l.foldl (whStep x t) a)
  | [], seen, a, h => by simpa using h
  | p :: l, seen, a, h => by
    have : whInv x t (seen ++ [p]) (whStep x t a p) := by
      obtain ⟨s, b⟩ := a
      unfold whStep
      by_cases h1 : p.no < x
      · by_cases h2 : b = false ∨ p.ti + t < s
        · rw [if_pos ⟨h1, h2⟩]
          refine ⟨(fun e => by cases e), fun _ => ⟨⟨p, by simp, h1, rfl⟩, fun q hq hqx => ?_⟩⟩
          rcases List.mem_append.1 hq with hq | hq
          · cases b with
            | false => exact absurd hqx (h.1 rfl q hq)
            | true => have := (h.2 rfl).2 q hq hqx; have : p.ti + t < s := h2.resolve_left (by simp); simp only at *; omega
          · simp at hq; subst hq; exact Int.le_refl _
        · rw [if_neg (fun hh => h2 hh.2)]
          have hb : b = true := by cases b; exact absurd (.inl rfl) h2; rfl
          subst hb
          obtain ⟨⟨q, hq, h3, h4⟩, h5⟩ := h.2 rfl
          refine ⟨(fun e => by cases e), fun _ => ⟨⟨q, by simp [hq], h3, h4⟩, fun r hr hrx => ?_⟩⟩
          rcases List.mem_append.1 hr with hr | hr
          · exact h5 r hr hrx
          · simp at hr; subst hr; exact Int.not_lt.1 fun hh => h2 (.inr hh)
      · rw [if_neg (fun hh => h1 hh.1)]
        refine ⟨fun e q hq => ?_, fun e => ?_⟩
        · rcases List.mem_append.1 hq with hq | hq
          · exact h.1 e q hq
          · simp at hq; subst hq; exact h1
        · obtain ⟨⟨q, hq, h3, h4⟩, h5⟩ := h.2 e
          refine ⟨⟨q, by simp [hq], h3, h4⟩, fun r hr hrx => ?_⟩
          rcases List.mem_append.1 hr with hr | hr
          · exact h5 r hr hrx
          · simp at hr; subst hr; exact absurd hrx h1
    have := whInv_fold x t l (seen ++ [p]) _ this
    simpa using this
theorem wh_law (x t : Int) (l : List Pk) : whInv x t l (wh x t l) := by
  have := whInv_fold x t l [] (0, false) ⟨(fun _ p hp => by cases hp), (fun e => by cases e)⟩
  simpa [wh] using this

/-- None is lost where none lies behind. -/
theorem lost_none {x y t : Int} {l : List Pk} (h : ∀ p ∈ l, ¬ p.no < x) : l.filter (lostIs x y t) = [] := by
  rw [List.filter_eq_nil_iff]
  intro p hp
  simp only [lostIs, decide_eq_true_eq]
  exact fun hh => h p hp hh.1
theorem lost_again {x y t : Int} {l : List Pk} : (l.filter fun p => !lostIs x y t p).filter (lostIs x y t) = [] := by
  rw [List.filter_eq_nil_iff]
  intro p hp
  have := (List.mem_filter.1 hp).2
  simpa using this
theorem kept_again {x y t : Int} {l : List Pk} : ((l.filter fun p => !lostIs x y t p).filter fun p => !lostIs x y t p) = l.filter fun p => !lostIs x y t p := by
  rw [List.filter_filter]
  simp
end Go.Proofs.Ytgebebdapfnmpaa
