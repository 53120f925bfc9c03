/- Diff, whole: of whatever screens; plain laws on its numbers. -/
import Derived.Test.YtfeeincglijmjaaDG
namespace Go.Proofs.Ytfeeincglijmjaa
open Go.RowKit
set_option linter.unusedVariables false
set_option linter.unusedSimpArgs false

theorem cNums_bnd {l : List (Int × Int)} (h : ∀ c ∈ l, cOk c = true) : ∀ x ∈ cNums l, 0 ≤ x ∧ x ≤ 1114111 := by
  induction l with
  | nil => intro x hx; cases hx
  | cons c l ih =>
    intro x hx
    have hc := h c (List.mem_cons_self ..)
    simp only [cOk, Bool.and_eq_true, inB_true] at hc
    simp only [cNums, List.mem_cons] at hx
    rcases hx with rfl | rfl | hx
    · omega
    · omega
    · exact ih (fun c hc => h c (List.mem_cons_of_mem _ hc)) x hx
theorem rNums_bnd {N : Nat} {l : List Rw} (hN : N ≤ 4096) (h : ∀ r ∈ l, r.s ≤ N ∧ r.l.length ≤ N ∧ ∀ c ∈ r.l, cOk c = true) : ∀ x ∈ rNums l, 0 ≤ x ∧ x ≤ 1114111 := by
  induction l with
  | nil => intro x hx; cases hx
  | cons r l ih =>
    intro x hx
    obtain ⟨h1, h2, h3⟩ := h r (List.mem_cons_self ..)
    simp only [rNums, List.mem_cons, List.mem_append] at hx
    rcases hx with rfl | rfl | hx | hx
    · omega
    · omega
    · exact cNums_bnd h3 x hx
    · exact ih (fun r hr => h r (List.mem_cons_of_mem _ hr)) x hx
theorem chg_bnd {f t : List (Int × Int)} (hN : t.length ≤ 4096) (h : ∀ c ∈ t, cOk c = true) : ∀ x ∈ dChg f t, 0 ≤ x ∧ x ≤ 1114111 := by
  intro x hx
  have hs := (rows_size (t.length + 1) 0 f t).1
  simp only [dChg, List.mem_cons] at hx
  rcases hx with rfl | hx
  · have : (dRows 0 f t).length ≤ t.length := hs
    omega
  · refine rNums_bnd hN (fun r hr => ?_) x hx
    obtain ⟨h1, h2, h3, h4⟩ := rows_mem t r (t.length + 1) 0 f (Nat.zero_le _) hr
    exact ⟨by omega, by omega, fun c hc => h c (List.mem_of_mem_drop (List.mem_of_mem_take (by rw [h2]; exact hc)))⟩
theorem mayB_true {l : List (Int × Int)} {n : Int} (h : mayB l n = true) : (l.length : Int) = n ∧ ∀ c ∈ l, cOk c = true := by
  simp only [mayB, Bool.and_eq_true, decide_eq_true_iff] at h
  exact ⟨h.1, fun c hc => List.all_eq_true.1 h.2 c hc⟩
/-- What a screen that may be is. -/
theorem gOk_parts {s : Scr} (h : gOk s = true) : ((1 ≤ s.W ∧ s.W ≤ 64) ∧ (1 ≤ s.H ∧ s.H ≤ 64)) ∧ ((s.cs.length : Int) = s.W * s.H ∧ ∀ c ∈ s.cs, cOk c = true) ∧ ((s.ms.length : Int) = (if s.al then s.W * s.H else 0) ∧ ∀ c ∈ s.ms, cOk c = true) ∧
    ((0 ≤ s.X ∧ s.X ≤ s.W - 1) ∧ (0 ≤ s.Y ∧ s.Y ≤ s.H - 1) ∧ (0 ≤ s.At ∧ s.At ≤ 2047)) ∧ ((0 ≤ s.Tp ∧ s.Tp ≤ s.Bt) ∧ s.Bt < s.H) ∧ ((0 ≤ s.s0 ∧ s.s0 ≤ 63) ∧ (0 ≤ s.s1 ∧ s.s1 ≤ 63) ∧ (0 ≤ s.s2 ∧ s.s2 ≤ 2047)) := by
  simp only [gOk, gPlaces, gCur, gRows, gSaved, Bool.and_eq_true, inB_true, decide_eq_true_iff] at h
  obtain ⟨⟨⟨⟨h1, h2, h3⟩, ⟨h4, h5⟩, h6⟩, h7, h8⟩, ⟨h9, h10⟩, h11⟩ := h
  exact ⟨gsides h1, mayB_true h2, mayB_true h3, ⟨h4, h5, h6⟩, ⟨h7, h8⟩, h9, h10, h11⟩
theorem gOk_ms {s : Scr} (h : gOk s = true) : s.ms.length ≤ 4096 := by
  obtain ⟨h1, h2, h3, _⟩ := gOk_parts h
  have := area h1
  have h4 := h3.1
  split at h4 <;> omega
theorem ground_len {s t : Scr} (h1 : gOk s = true) (h2 : gOk t = true) : (dGround s t.W t.H).1.length = t.cs.length ∧ (t.al = true → (dGround s t.W t.H).2.length = t.ms.length) := by
  obtain ⟨a1, a2, a3, _⟩ := gOk_parts h1
  obtain ⟨b1, b2, b3, _⟩ := gOk_parts h2
  have ar := area b1
  unfold dGround
  by_cases h : s.W = t.W ∧ s.H = t.H
  · rw [if_pos h]
    obtain ⟨e1, e2⟩ := h
    rw [e1, e2] at a2 a3
    have x1 := a2.1
    have x2 := b2.1
    have x3 := a3.1
    have x4 := b3.1
    refine ⟨by show s.cs.length = t.cs.length; omega, fun hal => ?_⟩
    rw [hal, if_pos rfl] at x4
    cases hs : s.al
    · simp only [Bool.false_eq_true, if_false, blanks_length]; omega
    · rw [hs, if_pos rfl] at x3
      simp only [if_true]; omega
  · rw [if_neg h]
    have x2 := b2.1
    have x4 := b3.1
    refine ⟨by simp only [blanks_length]; omega, fun hal => ?_⟩
    rw [hal, if_pos rfl] at x4
    simp only [blanks_length]; omega
theorem bits_bnd (s : Scr) : 0 ≤ dBits s ∧ dBits s ≤ 15 := by
  unfold dBits
  split <;> split <;> split <;> split <;> omega
theorem nums_bnd {s t : Scr} (h2 : gOk t = true) : ∀ x ∈ dNums s t, 0 ≤ x ∧ x ≤ 1114111 := by
  obtain ⟨b1, b2, b3, b4, b5, b6⟩ := gOk_parts h2
  have ar := area b1
  have hm := gOk_ms h2
  have hb := bits_bnd t
  intro x hx
  unfold dNums dHead at hx
  simp only [List.mem_append, List.mem_cons, List.not_mem_nil, or_false] at hx
  rcases hx with (hx | hx) | hx
  · rcases hx with rfl | rfl | rfl | rfl | rfl | rfl | rfl | rfl | rfl | rfl | rfl <;> omega
  · exact chg_bnd (by omega) b2.2 x hx
  · split at hx
    · exact chg_bnd hm b3.2 x hx
    · cases hx
theorem diff_any {lo up lo2 up2 : Nat} {s t : Scr} {C M C2 M2 : Option Addr} {cc cm cc2 cm2 : Nat} {w : World} (hat : ScrAt w lo up s C cc M cm) (hup : up ≤ w.heap.size) (hat2 : ScrAt w lo2 up2 t C2 cc2 M2 cm2) (hup2 : up2 ≤ w.heap.size) (hl : s.Len) (hl2 : t.Len) :
    Calls Try.prog 25 #[.agg (s.v C cc M cm), .agg (t.v C2 cc2 M2 cm2)] w (RetBE w (dDiff' s t).1 (dDiff' s t).2) := by
  unfold dDiff'
  cases h : (gOk s && gOk t)
  · exact diff_no hat hup hat2 hup2 hl hl2 h
  · simp only [Bool.and_eq_true] at h
    obtain ⟨h1, h2⟩ := h
    obtain ⟨b1, b2, _⟩ := gOk_parts h2
    have ar := area b1
    have hg := ground_len h1 h2
    have x2 := b2.1
    exact diff_yes hat hup hat2 hup2 hl hl2 h1 h2 (t.W * t.H).toNat (by omega) (by omega) hg.1 hg.2 (by omega) (gOk_ms h2) (fun x hx => by have := nums_bnd (s := s) h2 x hx; omega)
end Go.Proofs.Ytfeeincglijmjaa
