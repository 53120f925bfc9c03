/- What an argument that came in is to the walk: a slice of structs of one-cell fields; steps among them. -/
import Derived.Test.YtdiphckbnendlaaLift
import Derived.Test.YtdiphckbnendlaaOD
import Derived.Deep.Slices
import Derived.Deep.Fields
import Derived.ChangeSame
namespace Go.Proofs.Ytdiphckbnendlaa
open Go.ChangeShapes Go.WideShapes Go.ChangeAt Go.RowKit Go.Deep

section
variable {H : Type} {enc : TypeId × Value → H} {P : Program} {w : World} {base : Nat} {spare : Nat → Bool} {held : Bool}
theorem open_slice_fields {t e : TypeId} {fs : Array Field} {fuel : Nat} {cs : List Value} {x : DataW H × List MemPlace} (ht : P.underlying t = some (.slice e)) (he : P.underlying e = some (.struct fs))
    (hone : oneCellFields P fs = true) (hC : P.cellsOf e = fs.size) (h : DataW.trod enc P w base spare held fuel t cs = some x) :
    cs = [.slice none 0 0] ∨
    ∃ (a : Addr) (len cap m : Nat), cs = [.slice (some a) len cap] ∧ len ≤ cap ∧ cap ≤ maxLen ∧ m = (if spare a.block then cap else len) ∧
      ∀ i, i < m → ∀ (j : Nat) (f : Field), fs[j]? = some f → ∃ (v : Value) (n : Nat) (y : DataW H × List MemPlace), w.cell? (a.add (i * fs.size + j)) = some v ∧ DataW.trod enc P w base spare held n f.type [v] = some y := by
  rcases open_slice ht h with h0 | ⟨a, len, cap, m, n, D, Pl, hcs, hb, hl, hm, hmm, hx, hi⟩
  · exact .inl h0.1
  · refine .inr ⟨a, len, cap, m, hcs, hl, hm, hmm, fun i him => ?_⟩
    obtain ⟨cs', hc, ht'⟩ := hi i him
    rw [hC] at hc
    obtain ⟨ys, n', hn', hy, hlen, hyl, hf⟩ := DataW.trod_struct he ht'
    obtain ⟨_, hcl, hat⟩ := World.cells?_some hc
    intro j f hj
    obtain ⟨ho, hk⟩ := hone_of hone j f hj
    have hjl : j < fs.size := (Array.getElem?_eq_some_iff.1 hj).1
    have hcell := hat j hjl
    have hv : cs'[j]? = some (cs'[j]'(by omega)) := List.getElem?_eq_getElem (by omega)
    have h1 := hf j f hj
    rw [ho, hk] at h1
    have hone' : (cs'.drop j).take 1 = [cs'[j]'(by omega)] := by
      rw [List.drop_eq_getElem_cons (by omega)]
      rfl
    rw [hone'] at h1
    have hys : ys[j]? = some (ys[j]'(by omega)) := List.getElem?_eq_getElem (by omega)
    refine ⟨_, _, _, ?_, h1.trans hys⟩
    rw [← Go.Deep.add_add, hcell, hv]

/-- What one step's cells hold. -/
def stAt (w : World) (a : Addr) (i : Nat) (p : St) : Prop :=
  (w.cell? (a.add (i * 4)) = some (.int .i64 p.k) ∧ w.cell? (a.add (i * 4 + 1)) = some (.slice p.D p.d.length p.c) ∧ w.cell? (a.add (i * 4 + 2)) = some (.int .u8 p.a) ∧ w.cell? (a.add (i * 4 + 3)) = some (.int .u8 p.b)) ∧
  (-9223372036854775808 ≤ p.k ∧ p.k ≤ 9223372036854775807) ∧ (0 ≤ p.a ∧ p.a ≤ 255) ∧ (0 ≤ p.b ∧ p.b ≤ 255) ∧ p.d.length ≤ 9223372036854775807 ∧ Sl w 0 w.heap.size 1 p.D p.d.length p.c (byteCells p.d)
theorem sls_of_trod {t e ti tb tu : TypeId} {f0 f1 f2 f3 : Field} {fuel : Nat} {A : Option Addr} {n c : Nat} {x : DataW H × List MemPlace} (ht : P.underlying t = some (.slice e)) (he : P.underlying e = some (.struct #[f0, f1, f2, f3]))
    (hone : oneCellFields P #[f0, f1, f2, f3] = true) (hC : P.cellsOf e = 4) (h0 : f0.type = ti) (h1 : f1.type = tb) (h2 : f2.type = tu) (h3 : f3.type = tu) (hi : P.underlying ti = some (.int .i64)) (hb : P.underlying tb = some (.slice tu)) (hu : P.underlying tu = some (.int .u8)) (hcu : P.cellsOf tu = 1)
    (h : DataW.trod enc P w base spare held fuel t [.slice A n c] = some x) : ∃ l : List St, Sl w 0 w.heap.size 4 A n c (stCells l) ∧ c ≤ maxLen ∧ sWf w l := by
  rcases open_slice_fields ht he hone hC h with hcs | ⟨a, len, cap, m, hcs, hl, hm, hmm, hf⟩
  · simp at hcs
    obtain ⟨rfl, rfl, rfl⟩ := hcs
    exact ⟨[], Sl.empty _ _ _ _, Nat.zero_le _, fun p hp => by cases hp⟩
  · simp at hcs
    obtain ⟨rfl, rfl, rfl⟩ := hcs
    have hnm : n ≤ m := by rw [hmm]; split <;> omega
    have hcell : ∀ i, i < n → ∃ p : St, stAt w a i p := by
      intro i hin
      obtain ⟨v0, n0, y0, hc0, ht0⟩ := hf i (by omega) 0 f0 rfl
      obtain ⟨v1, n1, y1, hc1, ht1⟩ := hf i (by omega) 1 f1 rfl
      obtain ⟨v2, n2, y2, hc2, ht2⟩ := hf i (by omega) 2 f2 rfl
      obtain ⟨v3, n3, y3, hc3, ht3⟩ := hf i (by omega) 3 f3 rfl
      rw [h0] at ht0
      rw [h1] at ht1
      rw [h2] at ht2
      rw [h3] at ht3
      obtain ⟨x0, e0, _, w0⟩ := DataW.trod_int hi ht0
      injection e0 with e0 _
      subst e0
      obtain ⟨B, nb, cb, l, rfl, hs, hcb⟩ := sl_of_trod' hb hu hcu ht1
      obtain ⟨x2, e2, _, w2⟩ := DataW.trod_int hu ht2
      injection e2 with e2 _
      subst e2
      obtain ⟨x3, e3, _, w3⟩ := DataW.trod_int hu ht3
      injection e3 with e3 _
      subst e3
      have hlen : nb = l.length := by have := hs.len; rw [byteCells_length] at this; omega
      subst hlen
      have hle := hs.le
      exact ⟨⟨x0, l, B, cb, x2, x3⟩, ⟨hc0, hc1, hc2, hc3⟩, bounds_i64 w0, bounds_u8 w2, bounds_u8 w3, by unfold maxLen at hcb; show l.length ≤ _; omega, hs⟩
    obtain ⟨f, hf'⟩ : ∃ f : Nat → St, ∀ i, i < n → stAt w a i (f i) := by
      refine ⟨fun i => if h : i < n then (hcell i h).choose else ⟨0, [], none, 0, 0, 0⟩, fun i hi => ?_⟩
      simp only [dif_pos hi]
      exact (hcell i hi).choose_spec
    refine ⟨(List.range n).map f, ⟨by rw [stCells_length]; simp, hl, (fun h => by cases h), fun hn => ?_⟩, hm, ?_⟩
    · obtain ⟨b, o, sp⟩ := a
      have h00 := (hf' 0 (by omega)).1.1
      have hsp : sp = none := by simpa [Addr.add] using World.cell?_spot h00
      subst hsp
      refine ⟨b, o, rfl, Nat.zero_le _, ?_, fun j hj => ?_⟩
      · rw [addr_add] at h00
        exact World.block_lt_of_cell? _ _ h00
      · rw [stCells_length] at hj
        simp only [List.length_map, List.length_range] at hj
        have hj2 : j / 4 < n := by omega
        obtain ⟨⟨hc0, hc1, hc2, hc3⟩, _⟩ := hf' (j / 4) hj2
        have hg : ((List.range n).map f)[j / 4]'(by simpa using hj2) = f (j / 4) := by simp
        have hr := stCells_at ((List.range n).map f) (j / 4) (by simpa using hj2)
        rw [hg] at hr
        rw [addr_add] at hc0 hc1 hc2 hc3
        obtain ⟨r0, r1, r2, r3⟩ := hr
        have hj3 : j % 4 = 0 ∨ j % 4 = 1 ∨ j % 4 = 2 ∨ j % 4 = 3 := by omega
        rcases hj3 with h2 | h2 | h2 | h2
        · have e : j / 4 * 4 = j := by omega
          rw [e] at hc0 r0
          rw [hc0, r0]
        · have e : j / 4 * 4 + 1 = j := by omega
          rw [e] at hc1 r1
          rw [hc1, r1]
        · have e : j / 4 * 4 + 2 = j := by omega
          rw [e] at hc2 r2
          rw [hc2, r2]
        · have e : j / 4 * 4 + 3 = j := by omega
          rw [e] at hc3 r3
          rw [hc3, r3]
    · intro p hp
      obtain ⟨i, hi, rfl⟩ := List.mem_map.1 hp
      exact (hf' i (List.mem_range.1 hi)).2
theorem sls_of_Trod {t e ti tb tu : TypeId} {f0 f1 f2 f3 : Field} {v : Value} {d : DataW H} {p : List MemPlace} (ht : P.underlying t = some (.slice e)) (he : P.underlying e = some (.struct #[f0, f1, f2, f3]))
    (hone : oneCellFields P #[f0, f1, f2, f3] = true) (hC : P.cellsOf e = 4) (h0 : f0.type = ti) (h1 : f1.type = tb) (h2 : f2.type = tu) (h3 : f3.type = tu) (hi : P.underlying ti = some (.int .i64)) (hb : P.underlying tb = some (.slice tu)) (hu : P.underlying tu = some (.int .u8)) (hcu : P.cellsOf tu = 1) {r : Reach} {b0 : Nat} (hv : Value.okWide P w r b0 t v)
    (h : DataW.Trod enc P w base spare held t v d p) : ∃ (A : Option Addr) (n c : Nat) (l : List St), v = .slice A n c ∧ Sl w 0 w.heap.size 4 A n c (stCells l) ∧ c ≤ maxLen ∧ sWf w l := by
  obtain ⟨A, n, c, rfl⟩ := okWide_slice ht hv
  obtain ⟨fuel, hf⟩ := h
  obtain ⟨l, h1, h2, h3⟩ := sls_of_trod ht he hone hC h0 h1 h2 h3 hi hb hu hcu (by simpa [Value.cells] using hf)
  exact ⟨A, n, c, l, rfl, h1, h2, h3⟩
end
end Go.Proofs.Ytdiphckbnendlaa
