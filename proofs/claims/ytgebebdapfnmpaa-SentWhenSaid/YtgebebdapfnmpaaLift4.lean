/- What an argument that came in is to the walk: a ledger. -/
import Derived.Test.YtgebebdapfnmpaaLift3
import Derived.Test.YtgebebdapfnmpaaA
namespace Go.Proofs.Ytgebebdapfnmpaa
open Go.ChangeShapes Go.WideShapes Go.ChangeAt Go.RowKit Go.Deep

section
variable {H : Type} {enc : TypeId × Value → H} {P : Program} {w : World} {base : Nat} {spare : Nat → Bool} {held : Bool}
/-- What one packet's cells hold. -/
def pkAt (w : World) (a : Addr) (i : Nat) (p : Pk) : Prop :=
  (w.cell? (a.add (i * 5)) = some (.int .i64 p.no) ∧ w.cell? (a.add (i * 5 + 1)) = some (.int .i64 p.ti) ∧ w.cell? (a.add (i * 5 + 2)) = some (.int .i64 p.sz) ∧ w.cell? (a.add (i * 5 + 3)) = some (.bool p.el) ∧ w.cell? (a.add (i * 5 + 4)) = some (.bool p.pr)) ∧
  (-9223372036854775808 ≤ p.no ∧ p.no ≤ 9223372036854775807) ∧ (-9223372036854775808 ≤ p.ti ∧ p.ti ≤ 9223372036854775807) ∧ (-9223372036854775808 ≤ p.sz ∧ p.sz ≤ 9223372036854775807)
theorem slp_of_trod {t e ti tb : TypeId} {f0 f1 f2 f3 f4 : Field} {fuel : Nat} {A : Option Addr} {n c : Nat} {x : DataW H × List MemPlace} (ht : P.underlying t = some (.slice e)) (he : P.underlying e = some (.struct #[f0, f1, f2, f3, f4]))
    (hone : oneCellFields P #[f0, f1, f2, f3, f4] = true) (hC : P.cellsOf e = 5) (h0 : f0.type = ti) (h1 : f1.type = ti) (h2 : f2.type = ti) (h3 : f3.type = tb) (h4 : f4.type = tb) (hi : P.underlying ti = some (.int .i64)) (hb : P.underlying tb = some .bool)
    (h : DataW.trod enc P w base spare held fuel t [.slice A n c] = some x) : ∃ l : List Pk, Sl w 0 w.heap.size 5 A n c (pCells l) ∧ c ≤ maxLen ∧ pWf l := by
  rcases open_slice_fields ht he hone hC h with hcs | ⟨a, len, cap, m, hcs, hl, hm, hmm, hf⟩
  · simp at hcs
    obtain ⟨rfl, rfl, rfl⟩ := hcs
    exact ⟨[], Sl.empty _ _ _ _, Nat.zero_le _, fun p hp => by cases hp⟩
  · simp at hcs
    obtain ⟨rfl, rfl, rfl⟩ := hcs
    have hnm : n ≤ m := by rw [hmm]; split <;> omega
    have hcell : ∀ i, i < n → ∃ p : Pk, pkAt w a i p := by
      intro i hin
      obtain ⟨v0, n0, y0, hc0, ht0⟩ := hf i (by omega) 0 f0 rfl
      obtain ⟨v1, n1, y1, hc1, ht1⟩ := hf i (by omega) 1 f1 rfl
      obtain ⟨v2, n2, y2, hc2, ht2⟩ := hf i (by omega) 2 f2 rfl
      obtain ⟨v3, n3, y3, hc3, ht3⟩ := hf i (by omega) 3 f3 rfl
      obtain ⟨v4, n4, y4, hc4, ht4⟩ := hf i (by omega) 4 f4 rfl
      rw [h0] at ht0
      rw [h1] at ht1
      rw [h2] at ht2
      rw [h3] at ht3
      rw [h4] at ht4
      obtain ⟨x0, e0, _, w0⟩ := DataW.trod_int hi ht0
      injection e0 with e0 _
      subst e0
      obtain ⟨x1, e1, _, w1⟩ := DataW.trod_int hi ht1
      injection e1 with e1 _
      subst e1
      obtain ⟨x2, e2, _, w2⟩ := DataW.trod_int hi ht2
      injection e2 with e2 _
      subst e2
      obtain ⟨x3, e3, _⟩ := DataW.trod_bool hb ht3
      injection e3 with e3 _
      subst e3
      obtain ⟨x4, e4, _⟩ := DataW.trod_bool hb ht4
      injection e4 with e4 _
      subst e4
      exact ⟨⟨x0, x1, x2, x3, x4⟩, ⟨hc0, hc1, hc2, hc3, hc4⟩, bounds_i64 w0, bounds_i64 w1, bounds_i64 w2⟩
    obtain ⟨f, hf'⟩ : ∃ f : Nat → Pk, ∀ i, i < n → pkAt w a i (f i) := by
      refine ⟨fun i => if h : i < n then (hcell i h).choose else ⟨0, 0, 0, false, false⟩, fun i hi => ?_⟩
      simp only [dif_pos hi]
      exact (hcell i hi).choose_spec
    refine ⟨(List.range n).map f, ⟨by rw [pCells_length]; simp, hl, (fun h => by cases h), fun hn => ?_⟩, hm, ?_⟩
    · obtain ⟨b, o, sp⟩ := a
      have h00 := (hf' 0 (by omega)).1.1
      have hsp : sp = none := by simpa [Addr.add] using World.cell?_spot h00
      subst hsp
      refine ⟨b, o, rfl, Nat.zero_le _, ?_, fun j hj => ?_⟩
      · rw [addr_add] at h00
        exact World.block_lt_of_cell? _ _ h00
      · rw [pCells_length] at hj
        simp only [List.length_map, List.length_range] at hj
        have hj2 : j / 5 < n := by omega
        obtain ⟨⟨hc0, hc1, hc2, hc3, hc4⟩, _⟩ := hf' (j / 5) hj2
        have hg : ((List.range n).map f)[j / 5]'(by simpa using hj2) = f (j / 5) := by simp
        have hr := pCells_at ((List.range n).map f) (j / 5) (by simpa using hj2)
        rw [hg] at hr
        rw [addr_add] at hc0 hc1 hc2 hc3 hc4
        obtain ⟨r0, r1, r2, r3, r4⟩ := hr
        have hj3 : j % 5 = 0 ∨ j % 5 = 1 ∨ j % 5 = 2 ∨ j % 5 = 3 ∨ j % 5 = 4 := by omega
        rcases hj3 with h2 | h2 | h2 | h2 | h2
        · have e : j / 5 * 5 = j := by omega
          rw [e] at hc0 r0
          rw [hc0, r0]
        · have e : j / 5 * 5 + 1 = j := by omega
          rw [e] at hc1 r1
          rw [hc1, r1]
        · have e : j / 5 * 5 + 2 = j := by omega
          rw [e] at hc2 r2
          rw [hc2, r2]
        · have e : j / 5 * 5 + 3 = j := by omega
          rw [e] at hc3 r3
          rw [hc3, r3]
        · have e : j / 5 * 5 + 4 = j := by omega
          rw [e] at hc4 r4
          rw [hc4, r4]
    · intro p hp
      obtain ⟨i, hi, rfl⟩ := List.mem_map.1 hp
      exact (hf' i (List.mem_range.1 hi)).2
theorem slp_of_Trod {t e ti tb : TypeId} {f0 f1 f2 f3 f4 : Field} {v : Value} {d : DataW H} {p : List MemPlace} (ht : P.underlying t = some (.slice e)) (he : P.underlying e = some (.struct #[f0, f1, f2, f3, f4]))
    (hone : oneCellFields P #[f0, f1, f2, f3, f4] = true) (hC : P.cellsOf e = 5) (h0 : f0.type = ti) (h1 : f1.type = ti) (h2 : f2.type = ti) (h3 : f3.type = tb) (h4 : f4.type = tb) (hi : P.underlying ti = some (.int .i64)) (hb : P.underlying tb = some .bool) {r : Reach} {b0 : Nat} (hv : Value.okWide P w r b0 t v)
    (h : DataW.Trod enc P w base spare held t v d p) : ∃ (A : Option Addr) (n c : Nat) (l : List Pk), v = .slice A n c ∧ Sl w 0 w.heap.size 5 A n c (pCells l) ∧ c ≤ maxLen ∧ pWf l := by
  obtain ⟨A, n, c, rfl⟩ := okWide_slice ht hv
  obtain ⟨fuel, hf⟩ := h
  obtain ⟨l, h1, h2, h3⟩ := slp_of_trod ht he hone hC h0 h1 h2 h3 h4 hi hb (by simpa [Value.cells] using hf)
  exact ⟨A, n, c, l, rfl, h1, h2, h3⟩
end
end Go.Proofs.Ytgebebdapfnmpaa
