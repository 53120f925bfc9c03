/- What an argument that came in is to the walk: a slice of integers, over any program. -/
import Derived.Test.YtgckedeaoglehaaLift
namespace Go.Proofs.Ytgckedeaoglehaa
open Go.ChangeShapes Go.WideShapes Go.ChangeAt Go.RowKit

section
variable {H : Type} {enc : TypeId × Value → H} {P : Program} {w : World} {base : Nat} {spare : Nat → Bool} {held : Bool}
theorem sli_of_trod {k : IntKind} {t e : TypeId} {fuel : Nat} {A : Option Addr} {n c : Nat} {x : DataW H × List MemPlace} (ht : P.underlying t = some (.slice e)) (he : P.underlying e = some (.int k)) (hc : P.cellsOf e = 1)
    (h : DataW.trod enc P w base spare held fuel t [.slice A n c] = some x) : ∃ l : List Int, Sl w 0 w.heap.size 1 A n c (l.map fun x => .int k x) ∧ c ≤ maxLen ∧ ∀ x ∈ l, (Lit.int k x).wf = true := by
  rcases open_ints ht he hc h with ⟨hcs, _⟩ | ⟨ad, len, cap, zs, hcs, _, hl, hm, hz, _, hcell, hwz⟩
  · simp at hcs
    obtain ⟨rfl, rfl, rfl⟩ := hcs
    exact ⟨[], Sl.empty _ _ _ _, Nat.zero_le _, by simp⟩
  · simp at hcs
    obtain ⟨rfl, rfl, rfl⟩ := hcs
    have hlen : n ≤ zs.length := by
      rw [hz]; split <;> omega
    refine ⟨zs.take n, ⟨by rw [List.length_map, List.length_take]; omega, hl, (fun h => by cases h), fun hn => ?_⟩, hm, fun x hx => hwz x (List.mem_of_mem_take hx)⟩
    obtain ⟨b, o, sp⟩ := ad
    have h0 := hcell 0 (by omega)
    have hsp : sp = none := by simpa [Addr.add] using World.cell?_spot h0
    subst hsp
    refine ⟨b, o, rfl, Nat.zero_le _, ?_, fun j hj => ?_⟩
    · rw [addr_add] at h0
      exact World.block_lt_of_cell? _ _ h0
    · rw [List.length_map, List.length_take] at hj
      have hj' : j < zs.length := by omega
      have hcj := hcell j hj'
      rw [addr_add] at hcj
      rw [hcj]
      simp [List.getElem?_eq_getElem hj', show j < n from by omega]
theorem sli_of_Trod {k : IntKind} {t e : TypeId} {v : Value} {d : DataW H} {p : List MemPlace} (ht : P.underlying t = some (.slice e)) (he : P.underlying e = some (.int k)) (hc : P.cellsOf e = 1) {r : Reach} {b0 : Nat} (hv : Value.okWide P w r b0 t v)
    (h : DataW.Trod enc P w base spare held t v d p) : ∃ (A : Option Addr) (n c : Nat) (l : List Int), v = .slice A n c ∧ Sl w 0 w.heap.size 1 A n c (l.map fun x => .int k x) ∧ c ≤ maxLen ∧ ∀ x ∈ l, (Lit.int k x).wf = true := by
  obtain ⟨A, n, c, rfl⟩ := okWide_slice ht hv
  obtain ⟨fuel, hf⟩ := h
  obtain ⟨l, h1, h2, h3⟩ := sli_of_trod ht he hc (by simpa [Value.cells] using hf)
  exact ⟨A, n, c, l, rfl, h1, h2, h3⟩
end
end Go.Proofs.Ytgckedeaoglehaa
