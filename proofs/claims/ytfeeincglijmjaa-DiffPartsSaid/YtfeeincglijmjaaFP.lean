/- Plain laws of parts: those of one row of bytes, brought together, are it, if all are there; else none. -/
import Derived.Test.YtfeeincglijmjaaFC
import Derived.Test.YtfeeincglijmjaaVP
namespace Go.Proofs.Ytfeeincglijmjaa
open Go.RowKit
set_option linter.unusedVariables false
set_option linter.unusedSimpArgs false

def cChunk (l : List UInt8) (s k : Nat) : List UInt8 := (l.drop (k * s)).take s
theorem rPart_cPart {l : List UInt8} {s m k : Nat} (hm : m ≤ 4096) (hk : k < m) : rPart (cPart l s m k) = some ((k : Int), (m : Int), cChunk l s k) := by
  have hk1 : vSize (k : Int) ≠ 0 := vSize_ne (by omega) (by omega)
  have hm1 : vSize (m : Int) ≠ 0 := vSize_ne (by omega) (by omega)
  have e : cPart l s m k = vBytes (k : Int) ++ (vBytes (m : Int) ++ cChunk l s k) := by
    unfold cPart vCat cChunk
    simp
  rw [e]
  have g1 := vGet_vBytes hk1 (vBytes (m : Int) ++ cChunk l s k)
  have d1 : (vBytes (k : Int) ++ (vBytes (m : Int) ++ cChunk l s k)).drop (vSize (k : Int)) = vBytes (m : Int) ++ cChunk l s k := by
    rw [← vBytes_length]; exact List.drop_left
  have g2 := vGet_vBytes hm1 (cChunk l s k)
  have d2 : (vBytes (k : Int) ++ (vBytes (m : Int) ++ cChunk l s k)).drop (vSize (k : Int) + vSize (m : Int)) = cChunk l s k := by
    rw [← List.drop_drop, d1, ← vBytes_length]; exact List.drop_left
  unfold rPart
  rw [g1]
  simp only
  rw [d1, g2]
  simp only
  rw [d2, if_neg (by decide), if_neg (by omega)]
/-- How many places of so many are held. -/
def held (S : List (Int × List UInt8)) (m : Nat) : Nat := ((List.range m).filter fun (k : Nat) => (S.lookup (k : Int)).isSome).length
theorem count_more (p : Nat → Bool) (k : Nat) : ∀ m, p k = false → ((List.range m).filter fun j => p j || j == k).length = ((List.range m).filter p).length + (if k < m then 1 else 0)
  | 0, h => by simp
  | m + 1, h => by
    rw [List.range_succ, List.filter_append, List.filter_append, List.length_append, List.length_append, count_more p k m h]
    by_cases hk : k = m
    · subst hk
      simp [h]
    · have hb : (m == k) = false := by simp; omega
      cases hp : p m
      · simp only [List.filter_cons, hp, hb, Bool.or_false, List.filter_nil]
        split <;> split <;> simp <;> omega
      · simp only [List.filter_cons, hp, hb, Bool.or_false, List.filter_nil]
        split <;> split <;> simp <;> omega
theorem lookup_put (S : List (Int × List UInt8)) (k : Int) (p : List UInt8) (h : ∀ q, S.lookup k = some q → q = p) (k' : Int) : (jPut S k p).lookup k' = if k' = k then some p else S.lookup k' := by
  unfold jPut
  cases hq : S.lookup k with
  | some q =>
    have := h q hq
    subst this
    by_cases he : k' = k
    · subst he; simp [hq]
    · simp [he]
  | none =>
    simp only [Option.isSome_none, Bool.false_eq_true, if_false, lookup_snoc]
    by_cases he : k' = k
    · subst he; simp [hq]
    · simp only [he, if_false]
      cases S.lookup k' <;> rfl
/-- What is held is parts of l. -/
structure JOk (l : List UInt8) (s m : Nat) (S : List (Int × List UInt8)) : Prop where
  is : ∀ (k : Nat) q, S.lookup (k : Int) = some q → q = cChunk l s k
  many : S.length = held S m
theorem JOk.put {l : List UInt8} {s m : Nat} {S : List (Int × List UInt8)} (h : JOk l s m S) {k : Nat} (hk : k < m) : JOk l s m (jPut S (k : Int) (cChunk l s k)) ∧ (∀ j : Nat, ((jPut S (k : Int) (cChunk l s k)).lookup (j : Int)).isSome = ((S.lookup (j : Int)).isSome || j == k)) := by
  have hl := lookup_put S (k : Int) (cChunk l s k) (fun q hq => h.is k q hq)
  have hs : ∀ j : Nat, ((jPut S (k : Int) (cChunk l s k)).lookup (j : Int)).isSome = ((S.lookup (j : Int)).isSome || j == k) := by
    intro j
    rw [hl]
    by_cases e : j = k
    · subst e; simp
    · have e2 : ¬ ((j : Int) = (k : Int)) := by omega
      have e3 : (j == k) = false := by simp [e]
      rw [if_neg e2, e3, Bool.or_false]
  refine ⟨⟨fun j q hq => ?_, ?_⟩, hs⟩
  · rw [hl] at hq
    by_cases e : j = k
    · subst e
      rw [if_pos rfl] at hq
      injection hq with hq
      exact hq.symm
    · rw [if_neg (by omega)] at hq
      exact h.is j q hq
  · unfold held
    rw [List.filter_congr (fun j _ => hs j)]
    cases hp : (S.lookup (k : Int)).isSome
    · rw [count_more _ k m hp, if_pos hk]
      unfold jPut
      rw [hp]
      simp only [Bool.false_eq_true, if_false, List.length_append, List.length_cons, List.length_nil]
      have := h.many
      unfold held at this
      omega
    · unfold jPut
      rw [hp]
      simp only [if_true]
      rw [h.many]
      unfold held
      congr 1
      refine List.filter_congr (fun j _ => ?_)
      by_cases e : j = k
      · subst e; simp [hp]
      · have e3 : (j == k) = false := by simp [e]
        rw [e3, Bool.or_false]
theorem jGo_parts {l : List UInt8} {s m : Nat} (hm : m ≤ 4096) : ∀ (ks : List Nat) (f : Bool) (S : List (Int × List UInt8)) (m0 : Int), (∀ k ∈ ks, k < m) → JOk l s m S → (f = false → m0 = m) →
    ∃ S', jGo f (ks.map (cPart l s m)) S m0 = some (S', if ks = [] then m0 else m) ∧ JOk l s m S' ∧ ∀ j : Nat, (S'.lookup (j : Int)).isSome = ((S.lookup (j : Int)).isSome || decide (j ∈ ks))
  | [], f, S, m0, hk, hS, hf => ⟨S, by simp [jGo], hS, fun j => by simp⟩
  | k :: ks, f, S, m0, hk, hS, hf => by
    have hk1 := hk k (List.mem_cons_self ..)
    obtain ⟨h1, h2⟩ := hS.put hk1
    obtain ⟨S', e, h3, h4⟩ := jGo_parts hm ks false (jPut S (k : Int) (cChunk l s k)) (m : Int) (fun j hj => hk j (List.mem_cons_of_mem _ hj)) h1 (fun _ => rfl)
    refine ⟨S', ?_, h3, fun j => ?_⟩
    · rw [List.map_cons, jGo, rPart_cPart hm hk1]
      simp only
      rw [if_neg (fun ⟨a, b⟩ => b (hf a).symm), if_neg (fun ⟨p, a, b⟩ => b (hS.is k p a)), e]
      simp
    · rw [h4, h2]
      by_cases e : j = k
      · subst e; simp
      · have e3 : (j == k) = false := by simp [e]
        simp [e3, e]
theorem held_all {S : List (Int × List UInt8)} {m : Nat} (h : ∀ j : Nat, j < m → (S.lookup (j : Int)).isSome = true) : held S m = m := by
  unfold held
  rw [List.filter_eq_self.2 (fun j hj => h j (List.mem_range.1 hj)), List.length_range]
theorem held_lt {S : List (Int × List UInt8)} {m g : Nat} (hg : g < m) (h : (S.lookup (g : Int)).isSome = false) : held S m < m := by
  have h1 := count_more (fun (k : Nat) => (S.lookup (k : Int)).isSome) g m h
  rw [if_pos hg] at h1
  have h2 := List.length_filter_le (fun (j : Nat) => (S.lookup (j : Int)).isSome || j == g) (List.range m)
  rw [List.length_range] at h2
  unfold held
  omega
theorem chunks_all (l : List UInt8) (s : Nat) : ∀ m, (List.range m).flatMap (fun k => cChunk l s k) = l.take (m * s)
  | 0 => by simp
  | m + 1 => by
    rw [List.range_succ, List.flatMap_append, chunks_all l s m]
    simp only [List.flatMap_cons, List.flatMap_nil, List.append_nil, cChunk]
    rw [Nat.add_mul, Nat.one_mul, List.take_add]
theorem JOk.nil (l : List UInt8) (s m : Nat) : JOk l s m [] := by
  refine ⟨fun k q h => (by cases h), ?_⟩
  unfold held
  rw [List.filter_eq_nil_iff.2 (fun j _ => by simp [List.lookup])]
  rfl
theorem flat_congr {f g : Nat → List UInt8} : ∀ (L : List Nat), (∀ k ∈ L, f k = g k) → L.flatMap f = L.flatMap g
  | [], _ => rfl
  | k :: L, h => by
    rw [List.flatMap_cons, List.flatMap_cons, h k (List.mem_cons_self ..), flat_congr L (fun j hj => h j (List.mem_cons_of_mem _ hj))]
/-- All are there, in whatever order, however often. -/
theorem join_all {l : List UInt8} {s m : Nat} (hm : m ≤ 4096) (hm1 : 1 ≤ m) (hl : l.length ≤ m * s) {ks : List Nat} (hk : ∀ k ∈ ks, k < m) (hall : ∀ k, k < m → k ∈ ks) : jJoin (ks.map (cPart l s m)) = (l, 0) := by
  obtain ⟨S, e, h3, h4⟩ := jGo_parts hm ks true [] 0 hk (JOk.nil l s m) (fun h => by cases h)
  have hne : ks ≠ [] := fun h => by have := hall 0 (by omega); rw [h] at this; cases this
  rw [if_neg hne] at e
  unfold jJoin
  rw [e]
  simp only
  have hs : ∀ j : Nat, j < m → (S.lookup (j : Int)).isSome = true := fun j hj => by rw [h4]; simp [hall j hj]
  have hlen : S.length = m := h3.many.trans (held_all hs)
  rw [if_neg (by omega), Int.toNat_natCast]
  congr 1
  unfold jCat
  have e2 : ((List.range m).flatMap fun (k : Nat) => (S.lookup (k : Int)).getD []) = (List.range m).flatMap (fun k => cChunk l s k) := by
    refine flat_congr _ (fun k hk => ?_)
    have hk' := hs k (List.mem_range.1 hk)
    cases hq : S.lookup (k : Int) with
    | none => rw [hq] at hk'; cases hk'
    | some q => simp [hq, h3.is k q hq]
  rw [e2, chunks_all, List.take_of_length_le hl]
/-- One is not there. -/
theorem join_gone {l : List UInt8} {s m g : Nat} (hm : m ≤ 4096) (hg : g < m) {ks : List Nat} (hk : ∀ k ∈ ks, k < m) (hno : g ∉ ks) : jJoin (ks.map (cPart l s m)) = ([], 190) := by
  obtain ⟨S, e, h3, h4⟩ := jGo_parts hm ks true [] 0 hk (JOk.nil l s m) (fun h => by cases h)
  unfold jJoin
  rw [e]
  simp only
  by_cases hne : ks = []
  · rw [if_pos hne, if_pos (.inl rfl)]
  · rw [if_neg hne]
    have : held S m < m := held_lt hg (by rw [h4]; simp [hno])
    have hlen := h3.many
    rw [if_pos (.inr (by omega))]
theorem many_ge {n s : Nat} (hs : 1 ≤ s) : n ≤ cMany n s * s := by
  unfold cMany
  have h1 : n + s - 1 < ((n + s - 1) / s + 1) * s := by
    have := Nat.lt_mul_div_succ (n + s - 1) (by omega : 0 < s)
    rwa [Nat.mul_comm] at this
  rw [Nat.add_mul, Nat.one_mul] at h1
  have h2 : (n + s - 1) / s * s ≤ max ((n + s - 1) / s) 1 * s := Nat.mul_le_mul_right _ (Nat.le_max_left _ _)
  omega
theorem many_le {n s : Nat} (hs : 12 ≤ s) (hn : n ≤ 500) : cMany n s ≤ 42 := by
  unfold cMany
  have : (n + s - 1) / s ≤ 42 := by
    have h1 : (n + s - 1) / s < 43 := by
      rw [Nat.div_lt_iff_lt_mul (by omega)]
      omega
    omega
  omega
theorem cPart_len {l : List UInt8} {s m k : Nat} (hm : m < 64) (hk : k < 64) : (cPart l s m k).length ≤ 2 + s := by
  have h1 : (vBytes (k : Int)).length = 1 := by
    rw [vBytes_length]
    unfold vSize
    rw [if_neg (by omega), if_pos (by omega)]
  have h2 : (vBytes (m : Int)).length = 1 := by
    rw [vBytes_length]
    unfold vSize
    rw [if_neg (by omega), if_pos (by omega)]
  unfold cPart vCat
  simp only [List.flatMap_cons, List.flatMap_nil, List.append_nil, List.length_append, h1, h2, List.length_take]
  omega
end Go.Proofs.Ytfeeincglijmjaa
