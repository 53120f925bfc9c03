/- Texts of this seat, one behind the other. -/
import Derived.Test.YtfeeincglijmjaaLift
import Derived.Test.YtfeeincglijmjaaZB2
import Derived.Deep.Slices
import Derived.Deep.Fields
import Derived.ChangeSame
namespace Go.Proofs.Ytfeeincglijmjaa
open Go.ChangeShapes Go.WideShapes Go.ChangeAt Go.RowKit Go.Deep

section
variable {H : Type} {enc : TypeId × Value → H} {P : Program} {w : World} {base : Nat} {spare : Nat → Bool} {held : Bool}
theorem open_slice_fields {t e : TypeId} {fs : Array Field} {fuel : Nat} {cs : List Value} {x : DataW H × List MemPlace} (ht : P.underlying t = some (.slice e)) (he : P.underlying e = some (.struct fs))
    (hone : oneCellFields P fs = true) (hC : P.cellsOf e = fs.size) (h : DataW.trod enc P w base spare held fuel t cs = some x) :
    cs = [.slice none 0 0] ∨
    ∃ (a : Addr) (len cap m : Nat), cs = [.slice (some a) len cap] ∧ len ≤ cap ∧ cap ≤ maxLen ∧ m = (if spare a.block then cap else len) ∧
      ∀ i, i < m → ∀ (j : Nat) (f : Field), fs[j]? = some f → ∃ (v : Value) (n : Nat) (y : DataW H × List MemPlace), w.cell? (a.add (i * fs.size + j)) = some v ∧ DataW.trod enc P w base spare held n f.type [v] = some y := by
  rcases open_slice ht h with h0 | ⟨a, len, cap, m, n, D, Pl, hcs, hb, hl, hm, hmm, hx, hi⟩
  · exact .inl h0.1
  · refine .inr ⟨a, len, cap, m, hcs, hl, hm, hmm, fun i him => ?_⟩
    obtain ⟨cs', hc, ht'⟩ := hi i him
    rw [hC] at hc
    obtain ⟨ys, n', hn', hy, hlen, hyl, hf⟩ := DataW.trod_struct he ht'
    obtain ⟨_, hcl, hat⟩ := World.cells?_some hc
    intro j f hj
    obtain ⟨ho, hk⟩ := hone_of hone j f hj
    have hjl : j < fs.size := (Array.getElem?_eq_some_iff.1 hj).1
    have hcell := hat j hjl
    have hv : cs'[j]? = some (cs'[j]'(by omega)) := List.getElem?_eq_getElem (by omega)
    have h1 := hf j f hj
    rw [ho, hk] at h1
    have hone' : (cs'.drop j).take 1 = [cs'[j]'(by omega)] := by
      rw [List.drop_eq_getElem_cons (by omega)]
      rfl
    rw [hone'] at h1
    have hys : ys[j]? = some (ys[j]'(by omega)) := List.getElem?_eq_getElem (by omega)
    refine ⟨_, _, _, ?_, h1.trans hys⟩
    rw [← Go.Deep.add_add, hcell, hv]

theorem slc_of_trod {t e ti : TypeId} {f0 f1 : Field} {fuel : Nat} {A : Option Addr} {n c : Nat} {x : DataW H × List MemPlace} (ht : P.underlying t = some (.slice e)) (he : P.underlying e = some (.struct #[f0, f1]))
    (hone : oneCellFields P #[f0, f1] = true) (hC : P.cellsOf e = 2) (h0 : f0.type = ti) (h1 : f1.type = ti) (hi : P.underlying ti = some (.int .i64))
    (h : DataW.trod enc P w base spare held fuel t [.slice A n c] = some x) : ∃ l : List (Int × Int), Sl w 0 w.heap.size 2 A n c (cCells l) ∧ c ≤ maxLen := by
  rcases open_slice_fields ht he hone hC h with hcs | ⟨a, len, cap, m, hcs, hl, hm, hmm, hf⟩
  · simp at hcs
    obtain ⟨rfl, rfl, rfl⟩ := hcs
    exact ⟨[], Sl.empty _ _ _ _, Nat.zero_le _⟩
  · simp at hcs
    obtain ⟨rfl, rfl, rfl⟩ := hcs
    have hnm : n ≤ m := by rw [hmm]; split <;> omega
    have hcell : ∀ i, i < n → ∃ p : Int × Int, (w.cell? (a.add (i * 2)) = some (.int .i64 p.1) ∧ w.cell? (a.add (i * 2 + 1)) = some (.int .i64 p.2)) ∧
        (-9223372036854775808 ≤ p.1 ∧ p.1 ≤ 9223372036854775807) ∧ (-9223372036854775808 ≤ p.2 ∧ p.2 ≤ 9223372036854775807) := by
      intro i hin
      obtain ⟨v0, n0, y0, hc0, ht0⟩ := hf i (by omega) 0 f0 rfl
      obtain ⟨v1, n1, y1, hc1, ht1⟩ := hf i (by omega) 1 f1 rfl
      rw [h0] at ht0
      rw [h1] at ht1
      obtain ⟨x0, e0, _, w0⟩ := DataW.trod_int hi ht0
      injection e0 with e0 _
      subst e0
      obtain ⟨x1, e1, _, w1⟩ := DataW.trod_int hi ht1
      injection e1 with e1 _
      subst e1
      exact ⟨(x0, x1), ⟨hc0, hc1⟩, bounds_i64 w0, bounds_i64 w1⟩
    obtain ⟨f, hf'⟩ : ∃ f : Nat → Int × Int, ∀ i, i < n → (w.cell? (a.add (i * 2)) = some (.int .i64 (f i).1) ∧ w.cell? (a.add (i * 2 + 1)) = some (.int .i64 (f i).2)) ∧
        (-9223372036854775808 ≤ (f i).1 ∧ (f i).1 ≤ 9223372036854775807) ∧ (-9223372036854775808 ≤ (f i).2 ∧ (f i).2 ≤ 9223372036854775807) := by
      refine ⟨fun i => if h : i < n then (hcell i h).choose else (0, 0), fun i hi => ?_⟩
      simp only [dif_pos hi]
      exact (hcell i hi).choose_spec
    refine ⟨(List.range n).map f, ⟨by rw [cCells_length]; simp, hl, (fun h => by cases h), fun hn => ?_⟩, hm⟩
    · obtain ⟨b, o, sp⟩ := a
      have h00 := (hf' 0 (by omega)).1.1
      have hsp : sp = none := by simpa [Addr.add] using World.cell?_spot h00
      subst hsp
      refine ⟨b, o, rfl, Nat.zero_le _, ?_, fun j hj => ?_⟩
      · rw [addr_add] at h00
        exact World.block_lt_of_cell? _ _ h00
      · rw [cCells_length] at hj
        simp only [List.length_map, List.length_range] at hj
        have hj2 : j / 2 < n := by omega
        obtain ⟨⟨hc0, hc1⟩, _⟩ := hf' (j / 2) hj2
        have hg : ((List.range n).map f)[j / 2]'(by simpa using hj2) = f (j / 2) := by simp
        have hr := cCells_at ((List.range n).map f) (j / 2) (by simpa using hj2)
        rw [hg] at hr
        rw [addr_add] at hc0 hc1
        rcases Nat.mod_two_eq_zero_or_one j with h2 | h2
        · have e : j / 2 * 2 = j := by omega
          rw [e] at hc0 hr
          rw [hc0, hr.1]
        · have e : j / 2 * 2 + 1 = j := by omega
          rw [e] at hc1 hr
          rw [hc1, hr.2]
theorem slc_of_Trod {t e ti : TypeId} {f0 f1 : Field} {v : Value} {d : DataW H} {p : List MemPlace} (ht : P.underlying t = some (.slice e)) (he : P.underlying e = some (.struct #[f0, f1]))
    (hone : oneCellFields P #[f0, f1] = true) (hC : P.cellsOf e = 2) (h0 : f0.type = ti) (h1 : f1.type = ti) (hi : P.underlying ti = some (.int .i64)) {r : Reach} {b0 : Nat} (hv : Value.okWide P w r b0 t v)
    (h : DataW.Trod enc P w base spare held t v d p) : ∃ (A : Option Addr) (n c : Nat) (l : List (Int × Int)), v = .slice A n c ∧ Sl w 0 w.heap.size 2 A n c (cCells l) ∧ c ≤ maxLen := by
  obtain ⟨A, n, c, rfl⟩ := okWide_slice ht hv
  obtain ⟨fuel, hf⟩ := h
  obtain ⟨l, h1, h2⟩ := slc_of_trod ht he hone hC h0 h1 hi (by simpa [Value.cells] using hf)
  exact ⟨A, n, c, l, rfl, h1, h2⟩
theorem slc_of_trod' {t e ti : TypeId} {f0 f1 : Field} {fuel : Nat} {v : Value} {x : DataW H × List MemPlace} (ht : P.underlying t = some (.slice e)) (he : P.underlying e = some (.struct #[f0, f1]))
    (hone : oneCellFields P #[f0, f1] = true) (hC : P.cellsOf e = 2) (h0 : f0.type = ti) (h1 : f1.type = ti) (hi : P.underlying ti = some (.int .i64))
    (h : DataW.trod enc P w base spare held fuel t [v] = some x) : ∃ (A : Option Addr) (n c : Nat) (l : List (Int × Int)), v = .slice A n c ∧ Sl w 0 w.heap.size 2 A n c (cCells l) ∧ c ≤ maxLen := by
  have hv : ∃ A n c, v = .slice A n c := by
    rcases open_slice_fields ht he hone hC h with hcs | ⟨a, len, cap, m, hcs, _⟩
    · simp at hcs; exact ⟨_, _, _, hcs⟩
    · simp at hcs; exact ⟨_, _, _, hcs⟩
  obtain ⟨A, n, c, rfl⟩ := hv
  obtain ⟨l, q1, q2⟩ := slc_of_trod ht he hone hC h0 h1 hi h
  exact ⟨A, n, c, l, rfl, q1, q2⟩
theorem fld {xs : List (DataW H × List MemPlace)} {n' : Nat} {L : List Value} {fs : Array Field} (hfl : ∀ (i : Nat) (f : Field), fs[i]? = some f → DataW.trod enc P w base spare held n' f.type ((L.drop f.offset).take (P.cellsOf f.type)) = xs[i]?)
    (i : Nat) (f : Field) (hf : fs[i]? = some f) (hi : i < xs.length) (T : TypeId) (off k : Nat) (hT : f.type = T) (ho : f.offset = off) (hk : P.cellsOf T = k) : DataW.trod enc P w base spare held n' T ((L.drop off).take k) = some (xs[i]'hi) := by
  have h := hfl i f hf
  rw [hT, ho, hk] at h
  rw [h, List.getElem?_eq_getElem hi]
theorem arr {ys : List (DataW H × List MemPlace)} {m e n : Nat} {L : List Value} (hyf : ∀ (i : Nat), i < n → DataW.trod enc P w base spare held m e ((L.drop (i * P.cellsOf e)).take (P.cellsOf e)) = ys[i]?) (i : Nat) (hi : i < n ∧ i < ys.length) (hk : P.cellsOf e = 1) :
    DataW.trod enc P w base spare held m e ((L.drop (i * 1)).take 1) = some (ys[i]'hi.2) := by
  have h := hyf i hi.1
  rw [hk] at h
  rw [h, List.getElem?_eq_getElem hi.2]
theorem len_of_maxLen {n c : Nat} (h : n ≤ c) (hc : c ≤ maxLen) : n ≤ 9223372036854775807 := by unfold maxLen at hc; omega
theorem one3 : Try.prog.cellsOf 3 = 1 := by kernel_rfl
theorem one4 : Try.prog.cellsOf 4 = 1 := by kernel_rfl
theorem one32 : Try.prog.cellsOf 32 = 1 := by kernel_rfl
theorem three33 : Try.prog.cellsOf 33 = 3 := by kernel_rfl
theorem two64 : Try.prog.cellsOf 64 = 2 := by kernel_rfl
theorem c16 : Try.prog.cellsOf 35 = 16 := by kernel_rfl
set_option maxRecDepth 100000 in
set_option maxHeartbeats 2000000 in
theorem scr_of_Trod {v : Value} {d : DataW H} {p : List MemPlace} {r : Reach} {b0 : Nat} (hv : Value.okWide Try.prog w r b0 35 v) (h : DataW.Trod enc Try.prog w base spare held 35 v d p) :
    ∃ (s : Scr) (C : Option Addr) (cc : Nat) (M : Option Addr) (cm : Nat), v = .agg (s.v C cc M cm) ∧ ScrAt w 0 w.heap.size s C cc M cm ∧ s.Len := by
  obtain ⟨⟨L⟩, rfl, hsz⟩ := okWide_struct Try.underlying35 hv
  rw [c16] at hsz
  obtain ⟨fuel, hf⟩ := h
  simp only [Value.cells] at hf
  obtain ⟨xs, n', -, -, hl, hlen, hfl⟩ := DataW.trod_struct Try.underlying35 hf
  match L, hsz with
  | [c0, c1, c2, c3, c4, c5, c6, c7, c8, c9, c10, c11, c12, c13, c14, c15], _ =>
    have hx : xs.length = 14 := hlen
    have tW : DataW.trod enc Try.prog w base spare held n' 3 [c0] = some (xs[0]'(by omega)) := fld hfl 0 _ rfl (by omega) 3 0 1 rfl rfl one3
    have tH : DataW.trod enc Try.prog w base spare held n' 3 [c1] = some (xs[1]'(by omega)) := fld hfl 1 _ rfl (by omega) 3 1 1 rfl rfl one3
    have tC : DataW.trod enc Try.prog w base spare held n' 32 [c2] = some (xs[2]'(by omega)) := fld hfl 2 _ rfl (by omega) 32 2 1 rfl rfl one32
    have tX : DataW.trod enc Try.prog w base spare held n' 3 [c3] = some (xs[3]'(by omega)) := fld hfl 3 _ rfl (by omega) 3 3 1 rfl rfl one3
    have tY : DataW.trod enc Try.prog w base spare held n' 3 [c4] = some (xs[4]'(by omega)) := fld hfl 4 _ rfl (by omega) 3 4 1 rfl rfl one3
    have tAt : DataW.trod enc Try.prog w base spare held n' 3 [c5] = some (xs[5]'(by omega)) := fld hfl 5 _ rfl (by omega) 3 5 1 rfl rfl one3
    have tTp : DataW.trod enc Try.prog w base spare held n' 3 [c6] = some (xs[6]'(by omega)) := fld hfl 6 _ rfl (by omega) 3 6 1 rfl rfl one3
    have tBt : DataW.trod enc Try.prog w base spare held n' 3 [c7] = some (xs[7]'(by omega)) := fld hfl 7 _ rfl (by omega) 3 7 1 rfl rfl one3
    have twr : DataW.trod enc Try.prog w base spare held n' 4 [c8] = some (xs[8]'(by omega)) := fld hfl 8 _ rfl (by omega) 4 8 1 rfl rfl one4
    have tau : DataW.trod enc Try.prog w base spare held n' 4 [c9] = some (xs[9]'(by omega)) := fld hfl 9 _ rfl (by omega) 4 9 1 rfl rfl one4
    have thi : DataW.trod enc Try.prog w base spare held n' 4 [c10] = some (xs[10]'(by omega)) := fld hfl 10 _ rfl (by omega) 4 10 1 rfl rfl one4
    have tal : DataW.trod enc Try.prog w base spare held n' 4 [c11] = some (xs[11]'(by omega)) := fld hfl 11 _ rfl (by omega) 4 11 1 rfl rfl one4
    have tSv : DataW.trod enc Try.prog w base spare held n' 33 [c12, c13, c14] = some (xs[12]'(by omega)) := fld hfl 12 _ rfl (by omega) 33 12 3 rfl rfl three33
    have tM : DataW.trod enc Try.prog w base spare held n' 32 [c15] = some (xs[13]'(by omega)) := fld hfl 13 _ rfl (by omega) 32 15 1 rfl rfl one32
    obtain ⟨W, e, _, _⟩ := DataW.trod_int Try.underlying3 tW
    injection e with e _
    subst e
    obtain ⟨H, e, _, _⟩ := DataW.trod_int Try.underlying3 tH
    injection e with e _
    subst e
    obtain ⟨AC, nC, qC, lC, rfl, slC, hmC⟩ := slc_of_trod' Try.underlying32 Try.underlying64 (by kernel_rfl) two64 rfl rfl Try.underlying3 tC
    obtain ⟨X, e, _, _⟩ := DataW.trod_int Try.underlying3 tX
    injection e with e _
    subst e
    obtain ⟨Y, e, _, _⟩ := DataW.trod_int Try.underlying3 tY
    injection e with e _
    subst e
    obtain ⟨At, e, _, _⟩ := DataW.trod_int Try.underlying3 tAt
    injection e with e _
    subst e
    obtain ⟨Tp, e, _, _⟩ := DataW.trod_int Try.underlying3 tTp
    injection e with e _
    subst e
    obtain ⟨Bt, e, _, _⟩ := DataW.trod_int Try.underlying3 tBt
    injection e with e _
    subst e
    obtain ⟨wr, e, _⟩ := DataW.trod_bool Try.underlying4 twr
    injection e with e _
    subst e
    obtain ⟨au, e, _⟩ := DataW.trod_bool Try.underlying4 tau
    injection e with e _
    subst e
    obtain ⟨hi, e, _⟩ := DataW.trod_bool Try.underlying4 thi
    injection e with e _
    subst e
    obtain ⟨al, e, _⟩ := DataW.trod_bool Try.underlying4 tal
    injection e with e _
    subst e
    obtain ⟨AM, nM, qM, lM, rfl, slM, hmM⟩ := slc_of_trod' Try.underlying32 Try.underlying64 (by kernel_rfl) two64 rfl rfl Try.underlying3 tM
    obtain ⟨ys, m', -, -, -, hyl, hyf⟩ := DataW.trod_array Try.underlying33 tSv
    have u0 : DataW.trod enc Try.prog w base spare held m' 3 [c12] = some (ys[0]'(by omega)) := arr hyf 0 (by omega) one3
    obtain ⟨s0, e, _, _⟩ := DataW.trod_int Try.underlying3 u0
    injection e with e _
    subst e
    have u1 : DataW.trod enc Try.prog w base spare held m' 3 [c13] = some (ys[1]'(by omega)) := arr hyf 1 (by omega) one3
    obtain ⟨s1, e, _, _⟩ := DataW.trod_int Try.underlying3 u1
    injection e with e _
    subst e
    have u2 : DataW.trod enc Try.prog w base spare held m' 3 [c14] = some (ys[2]'(by omega)) := arr hyf 2 (by omega) one3
    obtain ⟨s2, e, _, _⟩ := DataW.trod_int Try.underlying3 u2
    injection e with e _
    subst e
    obtain rfl : nC = lC.length := slc_len slC
    obtain rfl : nM = lM.length := slc_len slM
    exact ⟨⟨W, H, X, Y, At, Tp, Bt, wr, au, hi, al, s0, s1, s2, lC, lM⟩, AC, qC, AM, qM, rfl, ⟨slC, slM⟩, len_of_maxLen slC.le hmC, len_of_maxLen slM.le hmM⟩
end
end Go.Proofs.Ytfeeincglijmjaa
