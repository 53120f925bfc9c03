/- A map of places to bytes, as Join holds it: what it reads as, looked up, written. Plain law of Join. -/
import Derived.Test.YtfeeincglijmjaaFB
import Derived.Maps.OwnSet
namespace Go.Proofs.Ytfeeincglijmjaa
open Go.RowKit
set_option linter.unusedVariables false
set_option linter.unusedSimpArgs false

/-- An element reads as itself. -/
def RV : Value → Option (DataW Value × List MemPlace) := fun v => some (.held v, [])
theorem keyed3 : Maps.Keyed Try.prog 3 := Maps.int_keyed Try.underlying3
def inK (k : Int) : Prop := 0 ≤ k ∧ k ≤ 4611686018427387903
theorem key3 {k : Int} (h : inK k) : keyOf Try.prog 3 (.int .i64 k) = some (.int .i64 k) := Maps.keyOf_int_mk Try.underlying3 (WalkArith.wf_i64 (by unfold inK at h; omega))
theorem lit3 (k : Int) : WideAt.IsKeyLit (.int .i64 k) := trivial
/-- Block b is a map that holds S. -/
def MIs (w : World) (lo up b n : Nat) (S : List (Int × List UInt8)) : Prop :=
  ∃ D, w.ownsMap Try.prog 3 RV b n D ∧ Maps.size D = S.length ∧ (∀ k, Maps.has D (.int .i64 k) = (S.lookup k).isSome) ∧
    ∀ k p, S.lookup k = some p → ∃ (A : Option Addr) (c : Nat), (∀ z, D.atKey (.int .i64 k) z = .held (Value.slice A p.length c)) ∧ Sl w lo up 1 A p.length c (byteCells p)
theorem MIs.made (w : World) (lo up : Nat) : MIs (w.alloc (.map #[] 0)) lo up w.heap.size 0 [] :=
  ⟨.map [], World.ownsMap_made w _ _ _, rfl, fun k => rfl, fun k p h => by cases h⟩
theorem MIs.kept {w w' : World} {lo up b n : Nat} {S : List (Int × List UInt8)} {row : Option Nat} (h : MIs w lo up b n S) (hg : w.grownBy w' row) (hne : some b ≠ row) (hup : up ≤ w.heap.size) (hr : ∀ g, row = some g → g < lo ∨ up ≤ g) : MIs w' lo up b n S := by
  obtain ⟨D, h1, h2, h3, h4⟩ := h
  refine ⟨D, h1.kept hg hne, h2, h3, fun k p hk => ?_⟩
  obtain ⟨A, c, e, hs⟩ := h4 k p hk
  exact ⟨A, c, e, hs.grown hg hup hr⟩
theorem MIs.drewN {w : World} {lo up b n : Nat} {S : List (Int × List UInt8)} (h : MIs w lo up b n S) (q : Nat) : MIs (w.drewN q) lo up b n S := by
  obtain ⟨D, h1, h2, h3, h4⟩ := h
  refine ⟨D, h1, h2, h3, fun k p hk => ?_⟩
  obtain ⟨A, c, e, hs⟩ := h4 k p hk
  exact ⟨A, c, e, hs.drewN q⟩
theorem MIs.lt {w : World} {lo up b n : Nat} {S : List (Int × List UInt8)} (h : MIs w lo up b n S) : b < w.heap.size := by
  obtain ⟨D, h1, _⟩ := h
  exact h1.lt
theorem zero23 (w : World) : (zeroValue 23).run Try.prog w = .ok (.slice none 0 0) w := by kernel_rfl
theorem MIs.look_ok {w : World} {lo up b n : Nat} {S : List (Int × List UInt8)} (h : MIs w lo up b n S) {k : Int} (hk : inK k) :
    ∃ v, (Instr.lookup 104 (.map (some b)) (.int .i64 k) true).run Try.prog w = .ok (.tuple #[v, .bool (S.lookup k).isSome]) w ∧ ∀ p, S.lookup k = some p → ∃ (A : Option Addr) (c : Nat), v = Value.slice A p.length c ∧ Sl w lo up 1 A p.length c (byteCells p) := by
  obtain ⟨D, h1, h2, h3, h4⟩ := h
  obtain ⟨v, ps, hrun, hv⟩ := h1.look_ok keyed3 Try.underlying104 (zero23 w) (zd := .held (.slice none 0 0)) (zp := []) rfl (key3 hk)
  rw [h3] at hrun
  refine ⟨v, hrun, fun p hp => ?_⟩
  obtain ⟨A, c, e, hs⟩ := h4 k p hp
  rw [e] at hv
  simp only [RV, Option.some.injEq, Prod.mk.injEq, DataW.held.injEq] at hv
  exact ⟨A, c, hv.1, hs⟩
theorem MIs.look {w : World} {lo up b n : Nat} {S : List (Int × List UInt8)} (h : MIs w lo up b n S) {k : Int} (hk : inK k) :
    ∃ (A : Option Addr) (c : Nat), (Instr.lookup 104 (.map (some b)) (.int .i64 k) false).run Try.prog w = .ok (.slice A ((S.lookup k).getD []).length c) w ∧ Sl w lo up 1 A ((S.lookup k).getD []).length c (byteCells ((S.lookup k).getD [])) := by
  obtain ⟨D, h1, h2, h3, h4⟩ := h
  obtain ⟨v, ps, hrun, hv⟩ := h1.lookup keyed3 Try.underlying104 (zero23 w) (zd := .held (.slice none 0 0)) (zp := []) rfl (key3 hk)
  cases hS : S.lookup k with
  | none =>
    have hh := h3 k
    rw [hS] at hh
    rw [Maps.atKey_of_not_has hh] at hv
    simp only [RV, Option.some.injEq, Prod.mk.injEq, DataW.held.injEq] at hv
    obtain ⟨rfl, _⟩ := hv
    exact ⟨none, 0, hrun, Sl.empty _ _ _ _⟩
  | some p =>
    obtain ⟨A, c, e, hs⟩ := h4 k p hS
    rw [e] at hv
    simp only [RV, Option.some.injEq, Prod.mk.injEq, DataW.held.injEq] at hv
    obtain ⟨rfl, _⟩ := hv
    exact ⟨A, c, hrun, hs⟩
theorem MIs.len {w : World} {lo up b n : Nat} {S : List (Int × List UInt8)} (h : MIs w lo up b n S) (ty : TypeId) : (Builtin.len_ #[104] ty #[.map (some b)]).run Try.prog w = .ok (.int .i64 (S.length : Int)) w := by
  obtain ⟨D, h1, h2, h3, h4⟩ := h
  rw [h1.len Try.underlying104 ty, h2]
/-- S, with a place's bytes. -/
def jPut (S : List (Int × List UInt8)) (k : Int) (p : List UInt8) : List (Int × List UInt8) := if (S.lookup k).isSome then S else S ++ [(k, p)]
theorem lookup_snoc (S : List (Int × List UInt8)) (k k' : Int) (p : List UInt8) : (S ++ [(k, p)]).lookup k' = match S.lookup k' with | some q => some q | none => if k' = k then some p else none := by
  induction S with
  | nil =>
    by_cases h : k' = k
    · subst h; simp [List.lookup]
    · have : (k' == k) = false := by simpa using h
      simp [List.lookup, this, h]
  | cons x r ih =>
    obtain ⟨a, q⟩ := x
    by_cases h : k' = a
    · subst h; simp [List.lookup]
    · have : (k' == a) = false := by simpa using h
      simp only [List.cons_append, List.lookup, this]
      exact ih
theorem MIs.set {w : World} {lo up b n : Nat} {S : List (Int × List UInt8)} (h : MIs w lo up b n S) {k : Int} (hk : inK k) (hn : n < 1000000) {A : Option Addr} {c : Nat} {p : List UInt8} (hs : Sl w lo up 1 A p.length c (byteCells p)) (hS : ∀ q, S.lookup k = some q → q = p) (hup : up ≤ w.heap.size) (hb : b < lo ∨ up ≤ b) :
    ∃ w', (Instr.mapUpdate 104 (.map (some b)) (.int .i64 k) (.slice A p.length c)).run Try.prog w = .ok () w' ∧ MIs w' lo up b (n + 1) (jPut S k p) ∧ w.grownBy w' (some b) := by
  obtain ⟨D, h1, h2, h3, h4⟩ := h
  obtain ⟨w', hrun, h1', hg⟩ := h1.update keyed3 Try.underlying104 (val := .slice A p.length c) (d := .held (.slice A p.length c)) (ps := []) (by unfold maxLen; omega) (key3 hk) rfl
  have hkeep : ∀ {A : Option Addr} {n c : Nat} {xs : List Value}, Sl w lo up 1 A n c xs → Sl w' lo up 1 A n c xs := fun h => h.grown hg hup (fun g e => by cases e; exact hb)
  have hlk : ∀ k', (jPut S k p).lookup k' = if k' = k then some p else S.lookup k' := by
    intro k'
    unfold jPut
    cases hq : S.lookup k with
    | some q =>
      have := hS q hq
      subst this
      by_cases he : k' = k
      · subst he; simp [hq]
      · simp [he]
    | none =>
      simp only [Option.isSome_none, Bool.false_eq_true, if_false, lookup_snoc]
      by_cases he : k' = k
      · subst he; simp [hq]
      · simp only [he, if_false]
        cases S.lookup k' <;> rfl
  refine ⟨w', hrun, ⟨D.put (.int .i64 k) (.held (.slice A p.length c)), h1', ?_, fun k' => ?_, fun k' q hq => ?_⟩, hg⟩
  · rw [Maps.size_put (h1.tidy keyed3), h3 k, h2]
    unfold jPut
    split <;> simp
  · rw [hlk]
    by_cases he : k' = k
    · subst he
      rw [Maps.has_put_same h1.isMap (lit3 _)]
      simp
    · rw [Maps.has_put_other (by simpa using he), h3 k', if_neg he]
  · rw [hlk] at hq
    by_cases he : k' = k
    · subst he
      rw [if_pos rfl] at hq
      injection hq with hq
      subst hq
      exact ⟨A, c, fun z => Maps.atKey_put_same h1.isMap (lit3 _) _ z, hkeep hs⟩
    · rw [if_neg he] at hq
      obtain ⟨A2, c2, e2, s2⟩ := h4 k' q hq
      exact ⟨A2, c2, fun z => by rw [Maps.atKey_put_other (by simpa using he)]; exact e2 z, hkeep s2⟩

/-- What Join gathers, part for part: what is held, and how many there are said to be. -/
def jGo : Bool → List (List UInt8) → List (Int × List UInt8) → Int → Option (List (Int × List UInt8) × Int)
  | _, [], S, m => some (S, m)
  | f, b :: r, S, m => match rPart b with
    | none => none
    | some (k, n, q) => if f = false ∧ n ≠ m then none else if (∃ p, S.lookup k = some p ∧ p ≠ q) then none else jGo false r (jPut S k q) n
/-- Join. -/
def jCat (S : List (Int × List UInt8)) (m : Nat) : List UInt8 := (List.range m).flatMap fun (k : Nat) => (S.lookup (k : Int)).getD []
def jJoin (ps : List (List UInt8)) : List UInt8 × Int :=
  match jGo true ps [] 0 with
  | none => ([], 190)
  | some (S, m) => if m = 0 ∨ (S.length : Int) ≠ m then ([], 190) else (jCat S m.toNat, 0)
/-- Values that are rows of bytes, wherever they lie. -/
def Ps (w : World) (lo up : Nat) (vs : List Value) (ps : List (List UInt8)) : Prop :=
  vs.length = ps.length ∧ ∀ (i : Nat) (v : Value) (p : List UInt8), vs[i]? = some v → ps[i]? = some p → ∃ (A : Option Addr) (c : Nat), v = Value.slice A p.length c ∧ Sl w lo up 1 A p.length c (byteCells p)
theorem Ps.below {w w' : World} {lo up B : Nat} {vs : List Value} {ps : List (List UInt8)} (h : Ps w lo up vs ps) (hb : Below B w w') (hB : up ≤ B) : Ps w' lo up vs ps :=
  ⟨h.1, fun i v p h1 h2 => by
    obtain ⟨A, c, e, ho⟩ := h.2 i v p h1 h2
    exact ⟨A, c, e, ho.below hb hB⟩⟩
theorem Bs.ps {w : World} {base : Nat} {vs : List Value} {ps : List (List UInt8)} (h : Bs w base vs ps) : Ps w base w.heap.size vs ps :=
  ⟨h.1, fun i v p h1 h2 => by
    obtain ⟨A, c, e, ho⟩ := h.2 i v p h1 h2
    exact ⟨A, c, e, Sl.of_own ho⟩⟩
theorem vGet_nn (l : List UInt8) : 0 ≤ (vGet l).1 ∧ (vGet l).1 ≤ 4611686018427387903 := by
  rcases vGet_cases l with ⟨h0, h1, h2⟩ | h0
  · have hq := h0
    unfold vGet at hq ⊢
    cases l with
    | nil => simp at hq
    | cons b r =>
      simp only at hq ⊢
      split at hq
      · simp at hq
      · rename_i hlt
        rw [if_neg hlt]
        unfold vIs at hq ⊢
        split at hq
        · rename_i hs
          rw [if_pos hs]
          simp only
          have ht := vTell_pos b
          unfold vSize at hs
          split at hs
          · omega
          · omega
        · simp at hq
  · rw [h0]; simp
theorem rPart_bnd {b : List UInt8} {k m : Int} {q : List UInt8} (h : rPart b = some (k, m, q)) : inK k ∧ 1 ≤ m ∧ m ≤ 4096 ∧ k < m ∧ q.length ≤ b.length := by
  unfold rPart at h
  split at h
  · cases h
  · split at h
    · cases h
    · rename_i h2
      injection h with h
      injection h with h3 h
      injection h with h4 h5
      have g := vGet_nn b
      have g2 := vGet_nn (b.drop (vGet b).2.1)
      subst h3 h4 h5
      refine ⟨g, by omega, by omega, by omega, ?_⟩
      rw [List.length_drop]
      omega
end Go.Proofs.Ytfeeincglijmjaa
