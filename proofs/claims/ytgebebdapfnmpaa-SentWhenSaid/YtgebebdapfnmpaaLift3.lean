/- What an argument that came in is to the walk: a slice of structs of one-cell fields; ranges among them. -/
import Derived.Test.YtgebebdapfnmpaaLift
import Derived.Test.YtgebebdapfnmpaaRE
import Derived.Deep.Slices
import Derived.Deep.Fields
import Derived.ChangeSame
namespace Go.Proofs.Ytgebebdapfnmpaa
open Go.ChangeShapes Go.WideShapes Go.ChangeAt Go.RowKit Go.Deep

section
variable {H : Type} {enc : TypeId × Value → H} {P : Program} {w : World} {base : Nat} {spare : Nat → Bool} {held : Bool}
theorem open_slice_fields {t e : TypeId} {fs : Array Field} {fuel : Nat} {cs : List Value} {x : DataW H × List MemPlace} (ht : P.underlying t = some (.slice e)) (he : P.underlying e = some (.struct fs))
    (hone : oneCellFields P fs = true) (hC : P.cellsOf e = fs.size) (h : DataW.trod enc P w base spare held fuel t cs = some x) :
    cs = [.slice none 0 0] ∨
    ∃ (a : Addr) (len cap m : Nat), cs = [.slice (some a) len cap] ∧ len ≤ cap ∧ cap ≤ maxLen ∧ m = (if spare a.block then cap else len) ∧
      ∀ i, i < m → ∀ (j : Nat) (f : Field), fs[j]? = some f → ∃ (v : Value) (n : Nat) (y : DataW H × List MemPlace), w.cell? (a.add (i * fs.size + j)) = some v ∧ DataW.trod enc P w base spare held n f.type [v] = some y := by
  rcases open_slice ht h with h0 | ⟨a, len, cap, m, n, D, Pl, hcs, hb, hl, hm, hmm, hx, hi⟩
  · exact .inl h0.1
  · refine .inr ⟨a, len, cap, m, hcs, hl, hm, hmm, fun i him => ?_⟩
    obtain ⟨cs', hc, ht'⟩ := hi i him
    rw [hC] at hc
    obtain ⟨ys, n', hn', hy, hlen, hyl, hf⟩ := DataW.trod_struct he ht'
    obtain ⟨_, hcl, hat⟩ := World.cells?_some hc
    intro j f hj
    obtain ⟨ho, hk⟩ := hone_of hone j f hj
    have hjl : j < fs.size := (Array.getElem?_eq_some_iff.1 hj).1
    have hcell := hat j hjl
    have hv : cs'[j]? = some (cs'[j]'(by omega)) := List.getElem?_eq_getElem (by omega)
    have h1 := hf j f hj
    rw [ho, hk] at h1
    have hone' : (cs'.drop j).take 1 = [cs'[j]'(by omega)] := by
      rw [List.drop_eq_getElem_cons (by omega)]
      rfl
    rw [hone'] at h1
    have hys : ys[j]? = some (ys[j]'(by omega)) := List.getElem?_eq_getElem (by omega)
    refine ⟨_, _, _, ?_, h1.trans hys⟩
    rw [← Go.Deep.add_add, hcell, hv]

theorem slr_of_trod {t e ti : TypeId} {f0 f1 : Field} {fuel : Nat} {A : Option Addr} {n c : Nat} {x : DataW H × List MemPlace} (ht : P.underlying t = some (.slice e)) (he : P.underlying e = some (.struct #[f0, f1]))
    (hone : oneCellFields P #[f0, f1] = true) (hC : P.cellsOf e = 2) (h0 : f0.type = ti) (h1 : f1.type = ti) (hi : P.underlying ti = some (.int .i64))
    (h : DataW.trod enc P w base spare held fuel t [.slice A n c] = some x) : ∃ l : List (Int × Int), Sl w 0 w.heap.size 2 A n c (rCells l) ∧ c ≤ maxLen ∧ rWf l := by
  rcases open_slice_fields ht he hone hC h with hcs | ⟨a, len, cap, m, hcs, hl, hm, hmm, hf⟩
  · simp at hcs
    obtain ⟨rfl, rfl, rfl⟩ := hcs
    exact ⟨[], Sl.empty _ _ _ _, Nat.zero_le _, fun p hp => by cases hp⟩
  · simp at hcs
    obtain ⟨rfl, rfl, rfl⟩ := hcs
    have hnm : n ≤ m := by rw [hmm]; split <;> omega
    have hcell : ∀ i, i < n → ∃ p : Int × Int, (w.cell? (a.add (i * 2)) = some (.int .i64 p.1) ∧ w.cell? (a.add (i * 2 + 1)) = some (.int .i64 p.2)) ∧
        (-9223372036854775808 ≤ p.1 ∧ p.1 ≤ 9223372036854775807) ∧ (-9223372036854775808 ≤ p.2 ∧ p.2 ≤ 9223372036854775807) := by
      intro i hin
      obtain ⟨v0, n0, y0, hc0, ht0⟩ := hf i (by omega) 0 f0 rfl
      obtain ⟨v1, n1, y1, hc1, ht1⟩ := hf i (by omega) 1 f1 rfl
      rw [h0] at ht0
      rw [h1] at ht1
      obtain ⟨x0, e0, _, w0⟩ := DataW.trod_int hi ht0
      injection e0 with e0 _
      subst e0
      obtain ⟨x1, e1, _, w1⟩ := DataW.trod_int hi ht1
      injection e1 with e1 _
      subst e1
      exact ⟨(x0, x1), ⟨hc0, hc1⟩, bounds_i64 w0, bounds_i64 w1⟩
    obtain ⟨f, hf'⟩ : ∃ f : Nat → Int × Int, ∀ i, i < n → (w.cell? (a.add (i * 2)) = some (.int .i64 (f i).1) ∧ w.cell? (a.add (i * 2 + 1)) = some (.int .i64 (f i).2)) ∧
        (-9223372036854775808 ≤ (f i).1 ∧ (f i).1 ≤ 9223372036854775807) ∧ (-9223372036854775808 ≤ (f i).2 ∧ (f i).2 ≤ 9223372036854775807) := by
      refine ⟨fun i => if h : i < n then (hcell i h).choose else (0, 0), fun i hi => ?_⟩
      simp only [dif_pos hi]
      exact (hcell i hi).choose_spec
    refine ⟨(List.range n).map f, ⟨by rw [rCells_length]; simp, hl, (fun h => by cases h), fun hn => ?_⟩, hm, ?_⟩
    · obtain ⟨b, o, sp⟩ := a
      have h00 := (hf' 0 (by omega)).1.1
      have hsp : sp = none := by simpa [Addr.add] using World.cell?_spot h00
      subst hsp
      refine ⟨b, o, rfl, Nat.zero_le _, ?_, fun j hj => ?_⟩
      · rw [addr_add] at h00
        exact World.block_lt_of_cell? _ _ h00
      · rw [rCells_length] at hj
        simp only [List.length_map, List.length_range] at hj
        have hj2 : j / 2 < n := by omega
        obtain ⟨⟨hc0, hc1⟩, _⟩ := hf' (j / 2) hj2
        have hg : ((List.range n).map f)[j / 2]'(by simpa using hj2) = f (j / 2) := by simp
        have hr := rCells_at ((List.range n).map f) (j / 2) (by simpa using hj2)
        rw [hg] at hr
        rw [addr_add] at hc0 hc1
        rcases Nat.mod_two_eq_zero_or_one j with h2 | h2
        · have e : j / 2 * 2 = j := by omega
          rw [e] at hc0 hr
          rw [hc0, hr.1]
        · have e : j / 2 * 2 + 1 = j := by omega
          rw [e] at hc1 hr
          rw [hc1, hr.2]
    · intro p hp
      obtain ⟨i, hi, rfl⟩ := List.mem_map.1 hp
      exact (hf' i (List.mem_range.1 hi)).2
theorem slr_of_Trod {t e ti : TypeId} {f0 f1 : Field} {v : Value} {d : DataW H} {p : List MemPlace} (ht : P.underlying t = some (.slice e)) (he : P.underlying e = some (.struct #[f0, f1]))
    (hone : oneCellFields P #[f0, f1] = true) (hC : P.cellsOf e = 2) (h0 : f0.type = ti) (h1 : f1.type = ti) (hi : P.underlying ti = some (.int .i64)) {r : Reach} {b0 : Nat} (hv : Value.okWide P w r b0 t v)
    (h : DataW.Trod enc P w base spare held t v d p) : ∃ (A : Option Addr) (n c : Nat) (l : List (Int × Int)), v = .slice A n c ∧ Sl w 0 w.heap.size 2 A n c (rCells l) ∧ c ≤ maxLen ∧ rWf l := by
  obtain ⟨A, n, c, rfl⟩ := okWide_slice ht hv
  obtain ⟨fuel, hf⟩ := h
  obtain ⟨l, h1, h2, h3⟩ := slr_of_trod ht he hone hC h0 h1 hi (by simpa [Value.cells] using hf)
  exact ⟨A, n, c, l, rfl, h1, h2, h3⟩
end
end Go.Proofs.Ytgebebdapfnmpaa
