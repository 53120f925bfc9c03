/- Slices of screens, and of shown screens, that came in. -/
import Derived.Test.YtfeeincglijmjaaLift3
import Derived.Test.YtfeeincglijmjaaZB9
namespace Go.Proofs.Ytfeeincglijmjaa
open Go.ChangeShapes Go.WideShapes Go.ChangeAt Go.RowKit Go.Deep
set_option linter.unusedVariables false
set_option linter.unusedSimpArgs false

/-- A screen, and where its places lie. -/
structure Scn where
  s : Scr
  C : Option Addr
  cc : Nat
  M : Option Addr
  cm : Nat
def Scn.v (x : Scn) : Array Value := x.s.v x.C x.cc x.M x.cm
theorem Scn.v_size (x : Scn) : x.v.size = 16 := rfl
def scCells : List Scn → List Value
  | [] => []
  | x :: l => x.v.toList ++ scCells l
theorem scCells_length : ∀ l : List Scn, (scCells l).length = l.length * 16
  | [] => rfl
  | x :: l => by rw [scCells, List.length_append, scCells_length l, Array.length_toList, Scn.v_size, List.length_cons]; omega
theorem scCells_drop : ∀ (l : List Scn) (k : Nat), (scCells l).drop (k * 16) = scCells (l.drop k)
  | l, 0 => by simp
  | [], k + 1 => by simp [scCells]
  | x :: l, k + 1 => by
    have h16 : x.v.toList.length = 16 := rfl
    rw [scCells, List.drop_append, h16, List.drop_of_length_le (by omega), List.nil_append, show (k + 1) * 16 - 16 = k * 16 from by omega, scCells_drop l k]
    rfl
theorem scCells_at {l : List Scn} {i : Nat} (h : i < l.length) (j : Nat) (hj : j < 16) : (scCells l)[i * 16 + j]? = l[i].v.toList[j]? := by
  have e : (scCells l)[i * 16 + j]? = ((scCells l).drop (i * 16))[j]? := by rw [List.getElem?_drop]
  rw [e, scCells_drop, List.drop_eq_getElem_cons h, scCells, List.getElem?_append_left]
  show j < 16
  exact hj
def Scn.Ok (w : World) (up : Nat) (x : Scn) : Prop := ScrAt w 0 up x.s x.C x.cc x.M x.cm ∧ x.s.Len
theorem Scn.Ok.below {w w' : World} {up B : Nat} {x : Scn} (h : x.Ok w up) (hb : Below B w w') (hB : up ≤ B) : x.Ok w' up := ⟨h.1.below hb hB, h.2⟩
/-- Screens, with their places. -/
structure Scs (w : World) (up : Nat) (A : Option Addr) (n c : Nat) (l : List Scn) : Prop where
  sl : Sl w 0 up 16 A n c (scCells l)
  ok : ∀ x ∈ l, x.Ok w up
theorem Scs.len {w : World} {up n c : Nat} {A : Option Addr} {l : List Scn} (h : Scs w up A n c l) : n = l.length := by have := h.sl.len; rw [scCells_length] at this; omega
theorem Scs.below {w w' : World} {up n c B : Nat} {A : Option Addr} {l : List Scn} (h : Scs w up A n c l) (hb : Below B w w') (hB : up ≤ B) : Scs w' up A n c l := ⟨h.sl.below hb hB, fun x hx => (h.ok x hx).below hb hB⟩
theorem Scs.cell {w : World} {up n c : Nat} {A : Option Addr} {l : List Scn} (h : Scs w up A n c l) (hn : 0 < n) : ∃ b o, A = some ⟨b, o, none⟩ ∧ b < up ∧ ∀ i (hi : i < l.length), w.rangeAt b (o + i * 16) l[i].v.toList := by
  obtain ⟨b, o, rfl, _, hb, hc⟩ := h.sl.at_ hn
  refine ⟨b, o, rfl, hb, fun i hi j v hv => ?_⟩
  have hj : j < 16 := (List.getElem?_eq_some_iff.1 hv).1
  have := hc (i * 16 + j) (by rw [scCells_length]; omega)
  rw [scCells_at hi j hj, hv] at this
  rw [← this]
  congr 2
  omega

def noScr0 : Scr := ⟨0, 0, 0, 0, 0, 0, 0, false, false, false, false, 0, 0, 0, [], []⟩
section
variable {H : Type} {enc : TypeId × Value → H} {P : Program} {w : World} {base : Nat} {spare : Nat → Bool} {held : Bool}
set_option maxRecDepth 100000 in
set_option maxHeartbeats 2000000 in
theorem scr_of_cells {fuel : Nat} {L : List Value} {x : DataW H × List MemPlace} (hsz : L.length = 16) (h : DataW.trod enc Try.prog w base spare held fuel 35 L = some x) :
    ∃ y : Scn, L = y.v.toList ∧ y.Ok w w.heap.size := by
  obtain ⟨xs, n', -, -, hl, hlen, hfl⟩ := DataW.trod_struct Try.underlying35 h
  match L, hsz with
  | [c0, c1, c2, c3, c4, c5, c6, c7, c8, c9, c10, c11, c12, c13, c14, c15], _ =>
    have hx : xs.length = 14 := hlen
    have tW : DataW.trod enc Try.prog w base spare held n' 3 [c0] = some (xs[0]'(by omega)) := fld hfl 0 _ rfl (by omega) 3 0 1 rfl rfl one3
    have tH : DataW.trod enc Try.prog w base spare held n' 3 [c1] = some (xs[1]'(by omega)) := fld hfl 1 _ rfl (by omega) 3 1 1 rfl rfl one3
    have tC : DataW.trod enc Try.prog w base spare held n' 32 [c2] = some (xs[2]'(by omega)) := fld hfl 2 _ rfl (by omega) 32 2 1 rfl rfl one32
    have tX : DataW.trod enc Try.prog w base spare held n' 3 [c3] = some (xs[3]'(by omega)) := fld hfl 3 _ rfl (by omega) 3 3 1 rfl rfl one3
    have tY : DataW.trod enc Try.prog w base spare held n' 3 [c4] = some (xs[4]'(by omega)) := fld hfl 4 _ rfl (by omega) 3 4 1 rfl rfl one3
    have tAt : DataW.trod enc Try.prog w base spare held n' 3 [c5] = some (xs[5]'(by omega)) := fld hfl 5 _ rfl (by omega) 3 5 1 rfl rfl one3
    have tTp : DataW.trod enc Try.prog w base spare held n' 3 [c6] = some (xs[6]'(by omega)) := fld hfl 6 _ rfl (by omega) 3 6 1 rfl rfl one3
    have tBt : DataW.trod enc Try.prog w base spare held n' 3 [c7] = some (xs[7]'(by omega)) := fld hfl 7 _ rfl (by omega) 3 7 1 rfl rfl one3
    have twr : DataW.trod enc Try.prog w base spare held n' 4 [c8] = some (xs[8]'(by omega)) := fld hfl 8 _ rfl (by omega) 4 8 1 rfl rfl one4
    have tau : DataW.trod enc Try.prog w base spare held n' 4 [c9] = some (xs[9]'(by omega)) := fld hfl 9 _ rfl (by omega) 4 9 1 rfl rfl one4
    have thi : DataW.trod enc Try.prog w base spare held n' 4 [c10] = some (xs[10]'(by omega)) := fld hfl 10 _ rfl (by omega) 4 10 1 rfl rfl one4
    have tal : DataW.trod enc Try.prog w base spare held n' 4 [c11] = some (xs[11]'(by omega)) := fld hfl 11 _ rfl (by omega) 4 11 1 rfl rfl one4
    have tSv : DataW.trod enc Try.prog w base spare held n' 33 [c12, c13, c14] = some (xs[12]'(by omega)) := fld hfl 12 _ rfl (by omega) 33 12 3 rfl rfl three33
    have tM : DataW.trod enc Try.prog w base spare held n' 32 [c15] = some (xs[13]'(by omega)) := fld hfl 13 _ rfl (by omega) 32 15 1 rfl rfl one32
    obtain ⟨W, e, _, _⟩ := DataW.trod_int Try.underlying3 tW
    injection e with e _
    subst e
    obtain ⟨H, e, _, _⟩ := DataW.trod_int Try.underlying3 tH
    injection e with e _
    subst e
    obtain ⟨AC, nC, qC, lC, rfl, slC, hmC⟩ := slc_of_trod' Try.underlying32 Try.underlying64 (by kernel_rfl) two64 rfl rfl Try.underlying3 tC
    obtain ⟨X, e, _, _⟩ := DataW.trod_int Try.underlying3 tX
    injection e with e _
    subst e
    obtain ⟨Y, e, _, _⟩ := DataW.trod_int Try.underlying3 tY
    injection e with e _
    subst e
    obtain ⟨At, e, _, _⟩ := DataW.trod_int Try.underlying3 tAt
    injection e with e _
    subst e
    obtain ⟨Tp, e, _, _⟩ := DataW.trod_int Try.underlying3 tTp
    injection e with e _
    subst e
    obtain ⟨Bt, e, _, _⟩ := DataW.trod_int Try.underlying3 tBt
    injection e with e _
    subst e
    obtain ⟨wr, e, _⟩ := DataW.trod_bool Try.underlying4 twr
    injection e with e _
    subst e
    obtain ⟨au, e, _⟩ := DataW.trod_bool Try.underlying4 tau
    injection e with e _
    subst e
    obtain ⟨hi, e, _⟩ := DataW.trod_bool Try.underlying4 thi
    injection e with e _
    subst e
    obtain ⟨al, e, _⟩ := DataW.trod_bool Try.underlying4 tal
    injection e with e _
    subst e
    obtain ⟨AM, nM, qM, lM, rfl, slM, hmM⟩ := slc_of_trod' Try.underlying32 Try.underlying64 (by kernel_rfl) two64 rfl rfl Try.underlying3 tM
    obtain ⟨ys, m', -, -, -, hyl, hyf⟩ := DataW.trod_array Try.underlying33 tSv
    have u0 : DataW.trod enc Try.prog w base spare held m' 3 [c12] = some (ys[0]'(by omega)) := arr hyf 0 (by omega) one3
    obtain ⟨s0, e, _, _⟩ := DataW.trod_int Try.underlying3 u0
    injection e with e _
    subst e
    have u1 : DataW.trod enc Try.prog w base spare held m' 3 [c13] = some (ys[1]'(by omega)) := arr hyf 1 (by omega) one3
    obtain ⟨s1, e, _, _⟩ := DataW.trod_int Try.underlying3 u1
    injection e with e _
    subst e
    have u2 : DataW.trod enc Try.prog w base spare held m' 3 [c14] = some (ys[2]'(by omega)) := arr hyf 2 (by omega) one3
    obtain ⟨s2, e, _, _⟩ := DataW.trod_int Try.underlying3 u2
    injection e with e _
    subst e
    obtain rfl : nC = lC.length := slc_len slC
    obtain rfl : nM = lM.length := slc_len slM
    exact ⟨⟨⟨W, H, X, Y, At, Tp, Bt, wr, au, hi, al, s0, s1, s2, lC, lM⟩, AC, qC, AM, qM⟩, rfl, ⟨slC, slM⟩, len_of_maxLen slC.le hmC, len_of_maxLen slM.le hmM⟩
theorem c17 : Try.prog.cellsOf 39 = 17 := by kernel_rfl
set_option maxRecDepth 100000 in
theorem shn_of_cells {fuel : Nat} {L : List Value} {x : DataW H × List MemPlace} (hsz : L.length = 17) (h : DataW.trod enc Try.prog w base spare held fuel 39 L = some x) :
    ∃ y : Shn, L = y.v.toList ∧ y.Ok w w.heap.size := by
  obtain ⟨xs, n', -, -, hl, hlen, hfl⟩ := DataW.trod_struct Try.underlying39 h
  have hx : xs.length = 2 := hlen
  match L, hsz with
  | c0 :: R, hR =>
    have t0 : DataW.trod enc Try.prog w base spare held n' 3 [c0] = some (xs[0]'(by omega)) := fld hfl 0 _ rfl (by omega) 3 0 1 rfl rfl one3
    have t1 : DataW.trod enc Try.prog w base spare held n' 35 (R.take 16) = some (xs[1]'(by omega)) := fld hfl 1 _ rfl (by omega) 35 1 16 rfl rfl c16
    have hR2 : R.length = 16 := by simpa using hR
    rw [List.take_of_length_le (by omega)] at t1
    obtain ⟨k, e, _, _⟩ := DataW.trod_int Try.underlying3 t0
    injection e with e _
    subst e
    obtain ⟨y, rfl, hy⟩ := scr_of_cells hR2 t1
    exact ⟨⟨k, y.s, y.C, y.cc, y.M, y.cm⟩, rfl, hy⟩
/-- A row of elements of k cells each. -/
theorem sl_build {α : Type} {k : Nat} (hk : 0 < k) {cv : α → List Value} {flat : List α → List Value} (hfl : ∀ l, (flat l).length = l.length * k) (hfa : ∀ (l : List α) (i : Nat) (h : i < l.length) (j : Nat), j < k → (flat l)[i * k + j]? = (cv l[i])[j]?) (hcl : ∀ x, (cv x).length = k)
    {a : Addr} {n c : Nat} (hl : n ≤ c) (f : Nat → α) (h : ∀ i, i < n → ∀ j, j < k → w.cell? (a.add (i * k + j)) = (cv (f i))[j]?) : Sl w 0 w.heap.size k (some a) n c (flat ((List.range n).map f)) := by
  refine ⟨by rw [hfl]; simp, hl, (fun h => by cases h), fun hn => ?_⟩
  obtain ⟨b, o, sp⟩ := a
  have h00 := h 0 (by omega) 0 hk
  rw [List.getElem?_eq_getElem (by rw [hcl]; exact hk)] at h00
  have hsp : sp = none := by simpa [Addr.add] using World.cell?_spot h00
  subst hsp
  refine ⟨b, o, rfl, Nat.zero_le _, ?_, fun j hj => ?_⟩
  · rw [addr_add] at h00
    exact World.block_lt_of_cell? _ _ h00
  · rw [hfl, List.length_map, List.length_range] at hj
    have h1 : j / k < n := Nat.div_lt_of_lt_mul (by rw [Nat.mul_comm]; exact hj)
    have h2 : j % k < k := Nat.mod_lt _ hk
    have h3 : j / k * k + j % k = j := by rw [Nat.mul_comm]; exact Nat.div_add_mod j k
    have e1 := h (j / k) h1 (j % k) h2
    have e2 := hfa ((List.range n).map f) (j / k) (by simpa using h1) (j % k) h2
    have hg : ((List.range n).map f)[j / k]'(by simpa using h1) = f (j / k) := by simp
    rw [hg, h3] at e2
    rw [h3, addr_add] at e1
    rw [e1, e2]
theorem cells_at {a : Addr} {k : Nat} {cs : List Value} (h : w.cells? base a k = some cs) (j : Nat) (hj : j < k) : w.cell? (a.add j) = cs[j]? ∧ cs.length = k := by
  obtain ⟨_, hcl, hat⟩ := World.cells?_some h
  exact ⟨hat j hj, hcl⟩
set_option maxRecDepth 100000 in
theorem scs_of_Trod {v : Value} {d : DataW H} {p : List MemPlace} {r : Reach} {b0 : Nat} (hv : Value.okWide Try.prog w r b0 22 v) (h : DataW.Trod enc Try.prog w base spare held 22 v d p) :
    ∃ (A : Option Addr) (n c : Nat) (l : List Scn), v = .slice A n c ∧ Scs w w.heap.size A n c l ∧ c ≤ maxLen := by
  obtain ⟨A, n, c, rfl⟩ := okWide_slice Try.underlying22 hv
  obtain ⟨fuel, hf⟩ := h
  simp only [Value.cells] at hf
  rcases open_slice Try.underlying22 hf with ⟨h0, -⟩ | ⟨a, len, cap, m, k, D, Pl, hcs, hb, hl, hm, hmm, hx, hi⟩
  · simp at h0
    obtain ⟨rfl, rfl, rfl⟩ := h0
    exact ⟨none, 0, 0, [], rfl, ⟨Sl.empty _ _ _ _, fun x hx => by cases hx⟩, Nat.zero_le _⟩
  · simp at hcs
    obtain ⟨rfl, rfl, rfl⟩ := hcs
    have hnm : n ≤ m := by rw [hmm]; split <;> omega
    rw [c16] at hi
    have key : ∀ i, i < n → ∃ y : Scn, (∀ j, j < 16 → w.cell? (a.add (i * 16 + j)) = y.v.toList[j]?) ∧ y.Ok w w.heap.size := by
      intro i hin
      obtain ⟨cs', hc, ht⟩ := hi i (by omega)
      obtain ⟨y, rfl, hy⟩ := scr_of_cells ((cells_at hc 0 (by omega)).2) ht
      exact ⟨y, fun j hj => by rw [← Go.Deep.add_add]; exact (cells_at hc j hj).1, hy⟩
    obtain ⟨f, hf'⟩ : ∃ f : Nat → Scn, ∀ i, i < n → (∀ j, j < 16 → w.cell? (a.add (i * 16 + j)) = (f i).v.toList[j]?) ∧ (f i).Ok w w.heap.size := by
      refine ⟨fun i => if h : i < n then (key i h).choose else ⟨noScr0, none, 0, none, 0⟩, fun i hi => ?_⟩
      simp only [dif_pos hi]
      exact (key i hi).choose_spec
    refine ⟨some a, n, c, (List.range n).map f, rfl, ⟨sl_build (by decide) (cv := fun x : Scn => x.v.toList) scCells_length (fun l i h j hj => scCells_at h j hj) (fun x => rfl) hl f (fun i hi => (hf' i hi).1), fun x hx => ?_⟩, hm⟩
    rw [List.mem_map] at hx
    obtain ⟨i, hi2, rfl⟩ := hx
    exact (hf' i (List.mem_range.1 hi2)).2
set_option maxRecDepth 100000 in
theorem shs_of_Trod {v : Value} {d : DataW H} {p : List MemPlace} {r : Reach} {b0 : Nat} (hv : Value.okWide Try.prog w r b0 25 v) (h : DataW.Trod enc Try.prog w base spare held 25 v d p) :
    ∃ (A : Option Addr) (n c : Nat) (l : List Shn), v = .slice A n c ∧ Shs w w.heap.size A n c l ∧ c ≤ maxLen := by
  obtain ⟨A, n, c, rfl⟩ := okWide_slice Try.underlying25 hv
  obtain ⟨fuel, hf⟩ := h
  simp only [Value.cells] at hf
  rcases open_slice Try.underlying25 hf with ⟨h0, -⟩ | ⟨a, len, cap, m, k, D, Pl, hcs, hb, hl, hm, hmm, hx, hi⟩
  · simp at h0
    obtain ⟨rfl, rfl, rfl⟩ := h0
    exact ⟨none, 0, 0, [], rfl, Shs.empty _ _, Nat.zero_le _⟩
  · simp at hcs
    obtain ⟨rfl, rfl, rfl⟩ := hcs
    have hnm : n ≤ m := by rw [hmm]; split <;> omega
    rw [c17] at hi
    have key : ∀ i, i < n → ∃ y : Shn, (∀ j, j < 17 → w.cell? (a.add (i * 17 + j)) = y.v.toList[j]?) ∧ y.Ok w w.heap.size := by
      intro i hin
      obtain ⟨cs', hc, ht⟩ := hi i (by omega)
      obtain ⟨y, rfl, hy⟩ := shn_of_cells ((cells_at hc 0 (by omega)).2) ht
      exact ⟨y, fun j hj => by rw [← Go.Deep.add_add]; exact (cells_at hc j hj).1, hy⟩
    obtain ⟨f, hf'⟩ : ∃ f : Nat → Shn, ∀ i, i < n → (∀ j, j < 17 → w.cell? (a.add (i * 17 + j)) = (f i).v.toList[j]?) ∧ (f i).Ok w w.heap.size := by
      refine ⟨fun i => if h : i < n then (key i h).choose else ⟨0, noScr0, none, 0, none, 0⟩, fun i hi => ?_⟩
      simp only [dif_pos hi]
      exact (key i hi).choose_spec
    refine ⟨some a, n, c, (List.range n).map f, rfl, ⟨sl_build (by decide) (cv := fun x : Shn => x.v.toList) shCells_length (fun l i h j hj => shCells_at h j hj) (fun x => rfl) hl f (fun i hi => (hf' i hi).1), fun x hx => ?_⟩, hm⟩
    rw [List.mem_map] at hx
    obtain ⟨i, hi2, rfl⟩ := hx
    exact (hf' i (List.mem_range.1 hi2)).2
end
end Go.Proofs.Ytfeeincglijmjaa
