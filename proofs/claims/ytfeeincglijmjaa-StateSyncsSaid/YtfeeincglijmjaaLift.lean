/- Texts of this seat, one behind the other. -/
import Derived.Test.YtfeeincglijmjaaZB1
import Derived.ProofKit
import Derived.OpenShut
import Derived.ShutString
import Derived.ChangeOld
import Derived.Below
import Derived.Lib.SmallJoins
namespace Go.Proofs.Ytfeeincglijmjaa
open Go.ChangeShapes Go.WideShapes Go.ChangeAt Go.RowKit

/-- Numbers that are bytes. -/
theorem bytes_of_ints : ∀ (zs : List Int), (∀ n ∈ zs, (Lit.int .u8 n).wf = true) → ∃ l : List UInt8, zs = l.map fun b => (b.toNat : Int)
  | [], _ => ⟨[], rfl⟩
  | z :: zs, h => by
    obtain ⟨l, hl⟩ := bytes_of_ints zs (fun n hn => h n (List.mem_cons_of_mem _ hn))
    have hz := bounds_u8 (h z (List.mem_cons_self ..))
    refine ⟨UInt8.ofNat z.toNat :: l, ?_⟩
    have e : (UInt8.ofNat z.toNat).toNat = z.toNat := by rw [UInt8.toNat_ofNat']; exact Nat.mod_eq_of_lt (by omega)
    rw [List.map_cons, ← hl, e, Int.toNat_of_nonneg hz.1]

section
variable {H : Type} {enc : TypeId × Value → H} {P : Program} {w : World} {base : Nat} {spare : Nat → Bool} {held : Bool}
theorem sl_of_trod {t e : TypeId} {fuel : Nat} {A : Option Addr} {n c : Nat} {x : DataW H × List MemPlace} (ht : P.underlying t = some (.slice e)) (he : P.underlying e = some (.int .u8)) (hc : P.cellsOf e = 1)
    (h : DataW.trod enc P w base spare held fuel t [.slice A n c] = some x) : ∃ l : List UInt8, Sl w 0 w.heap.size 1 A n c (byteCells l) ∧ c ≤ maxLen := by
  rcases open_ints ht he hc h with ⟨hcs, _⟩ | ⟨ad, len, cap, zs, hcs, _, hl, hm, hz, _, hcell, hwz⟩
  · simp at hcs
    obtain ⟨rfl, rfl, rfl⟩ := hcs
    exact ⟨[], Sl.empty _ _ _ _, Nat.zero_le _⟩
  · simp at hcs
    obtain ⟨rfl, rfl, rfl⟩ := hcs
    obtain ⟨l, rfl⟩ := bytes_of_ints zs hwz
    have hlen : n ≤ l.length := by
      rw [List.length_map] at hz
      rw [hz]; split <;> omega
    refine ⟨l.take n, ⟨by rw [byteCells_length, List.length_take]; omega, hl, (fun h => by cases h), fun hn => ?_⟩, hm⟩
    obtain ⟨b, o, sp⟩ := ad
    have h0 := hcell 0 (by rw [List.length_map]; omega)
    have hsp : sp = none := by simpa [Addr.add] using World.cell?_spot h0
    subst hsp
    refine ⟨b, o, rfl, Nat.zero_le _, ?_, fun j hj => ?_⟩
    · rw [addr_add] at h0
      exact World.block_lt_of_cell? _ _ h0
    · rw [byteCells_length, List.length_take] at hj
      have hj' : j < l.length := by omega
      have hcj := hcell j (by rw [List.length_map]; exact hj')
      rw [addr_add] at hcj
      rw [hcj, byteCells_at (by rw [List.length_take]; exact hj)]
      simp [List.getElem?_eq_getElem hj']
theorem sl_of_trod' {t e : TypeId} {fuel : Nat} {v : Value} {x : DataW H × List MemPlace} (ht : P.underlying t = some (.slice e)) (he : P.underlying e = some (.int .u8)) (hc : P.cellsOf e = 1)
    (h : DataW.trod enc P w base spare held fuel t [v] = some x) : ∃ (A : Option Addr) (n c : Nat) (l : List UInt8), v = .slice A n c ∧ Sl w 0 w.heap.size 1 A n c (byteCells l) ∧ c ≤ maxLen := by
  have hv : ∃ A n c, v = .slice A n c := by
    rcases open_ints ht he hc h with ⟨hcs, _⟩ | ⟨ad, len, cap, zs, hcs, _⟩
    · simp at hcs; exact ⟨_, _, _, hcs⟩
    · simp at hcs; exact ⟨_, _, _, hcs⟩
  obtain ⟨A, n, c, rfl⟩ := hv
  obtain ⟨l, h1, h2⟩ := sl_of_trod ht he hc h
  exact ⟨A, n, c, l, rfl, h1, h2⟩
theorem sl_of_Trod {t e : TypeId} {v : Value} {d : DataW H} {p : List MemPlace} (ht : P.underlying t = some (.slice e)) (he : P.underlying e = some (.int .u8)) (hc : P.cellsOf e = 1) {r : Reach} {b0 : Nat} (hv : Value.okWide P w r b0 t v)
    (h : DataW.Trod enc P w base spare held t v d p) : ∃ (A : Option Addr) (n c : Nat) (l : List UInt8), v = .slice A n c ∧ Sl w 0 w.heap.size 1 A n c (byteCells l) ∧ c ≤ maxLen := by
  obtain ⟨A, n, c, rfl⟩ := okWide_slice ht hv
  obtain ⟨fuel, hf⟩ := h
  obtain ⟨l, h1, h2⟩ := sl_of_trod ht he hc (by simpa [Value.cells] using hf)
  exact ⟨A, n, c, l, rfl, h1, h2⟩
end
end Go.Proofs.Ytfeeincglijmjaa
