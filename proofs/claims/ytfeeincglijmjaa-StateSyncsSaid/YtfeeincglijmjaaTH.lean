/- Boxes of parts, and plain laws of parts that are collected. -/
import Derived.Test.YtfeeincglijmjaaTG
namespace Go.Proofs.Ytfeeincglijmjaa
open Go.RowKit
set_option linter.unusedVariables false
set_option linter.unusedSimpArgs false

/-- A row stays, where a block of another type is written. -/
theorem own_grBlk {w w' : World} {base : Nat} {e : TypeId} {s : Nat} {v : Value} {n : Nat} {xs : List Value} {g : Nat} {t : TypeId} {cs : Array Value} (h : w.ownsRow base e s v n xs) (hb : Blk w g t cs) (hne : e ≠ t) (hg : w.grownBy w' (some g)) : w'.ownsRow base e s v n xs := by
  refine ⟨h.1, ?_⟩
  rcases h.2 with h2 | ⟨g', cap, cur, hv, hgb, hh, r⟩
  · exact .inl h2
  · refine .inr ⟨g', cap, cur, hv, hgb, (hg.block g' (Array.getElem?_eq_some_iff.1 hh).1 (fun e' => ?_)).trans hh, r⟩
    injection e' with e'
    subst e'
    unfold Blk at hb
    rw [hb] at hh
    injection hh with hh
    injection hh with _ ht
    exact hne ht.symm
theorem Bs.grBlk {w w' : World} {base g : Nat} {vs : List Value} {ps : List (List UInt8)} {t : TypeId} {cs : Array Value} (h : Bs w base vs ps) (hb : Blk w g t cs) (hne : (5 : TypeId) ≠ t) (hg : w.grownBy w' (some g)) : Bs w' base vs ps :=
  ⟨h.1, fun j v p h1 h2 => by
    obtain ⟨A, c, e, ho⟩ := h.2 j v p h1 h2
    exact ⟨A, c, e, own_grBlk ho hb hne hg⟩⟩
/-- A box that holds parts. -/
def PBox (w : World) (lo g : Nat) (q : Int × Int × List (List UInt8)) : Prop :=
  ∃ A c vs, Blk w g 31 #[.int .i64 q.1, .int .i64 q.2.1, .slice A q.2.2.length c] ∧ w.ownsRow lo 23 1 (.slice A q.2.2.length c) q.2.2.length vs ∧ Bs w lo vs q.2.2
theorem PBox.below {w w' : World} {lo g B : Nat} {q : Int × Int × List (List UInt8)} (h : PBox w lo g q) (hb : Below B w w') (hB : w.heap.size ≤ B) : PBox w' lo g q := by
  obtain ⟨A, c, vs, h1, h2, h3⟩ := h
  exact ⟨A, c, vs, h1.below hb (Nat.lt_of_lt_of_le h1.lt hB), own_below h2 hb hB, h3.below hb hB⟩
theorem PBox.more {w : World} {lo lo' g : Nat} {q : Int × Int × List (List UInt8)} (h : PBox w lo g q) (hl : lo' ≤ lo) : PBox w lo' g q := by
  obtain ⟨A, c, vs, h1, h2, h3⟩ := h
  exact ⟨A, c, vs, h1, own_more h2 hl, h3.more hl⟩
theorem PBox.lt {w : World} {lo g : Nat} {q : Int × Int × List (List UInt8)} (h : PBox w lo g q) : g < w.heap.size := by
  obtain ⟨A, c, vs, h1, _⟩ := h
  exact h1.lt
/-- Another box of its kind is written. -/
theorem PBox.far {w w' : World} {lo g g' : Nat} {q : Int × Int × List (List UInt8)} {cs : Array Value} (h : PBox w lo g q) (hb : Blk w g' 31 cs) (hg : w.grownBy w' (some g')) (hne : g ≠ g') : PBox w' lo g q := by
  obtain ⟨A, c, vs, h1, h2, h3⟩ := h
  exact ⟨A, c, vs, h1.grown hg (fun e => hne (by injection e)), own_grBlk h2 hb (by decide) hg, h3.grBlk hb (by decide) hg⟩
theorem exec_ldp {w : World} {a : Act} {x : Operand} {g : Nat} {cs : Array Value} {dst : Option Tmp} {ty : TypeId} {pos : String} {after : Array _} {gd : Option _} (hb : Hid (w.rangeAt g 0 cs.toList)) (hs : cs.size = 3) (hx : a.eval x = .pointer (some ⟨g, 0, none⟩)) :
    (execOp a.eval ⟨dst, .load 31 x, ty, pos, after, gd⟩).run Try.prog w = .ok (.value (.agg cs)) w := by
  have := run_loadAt_mid (P := Try.prog) w g 0 31 cs.toList _ hb.out Try.underlying31 rfl (by rw [info31, Array.length_toList, hs])
  unfold execOp
  simp only [hx, Sem.run_bind, this, Result.andThen_ok, Sem.run_pure]
/-- Collect, where what is held is one's own. -/
theorem collect_own {lo lo3 up3 : Nat} {A P : Option Addr} {c cp : Nat} {vs : List Value} {G : List (List UInt8)} {part : List UInt8} {B N b n : Int} {w : World} (ho : w.ownsRow lo 23 1 (.slice A G.length c) G.length vs) (hb : Bs w lo vs G) (h3 : Sl w lo3 up3 1 P part.length cp (byteCells part)) (hup3 : up3 ≤ w.heap.size) (hn : G.length ≤ 90000) (hl : ∀ p ∈ G, p.length ≤ 3000) (hpl : part.length ≤ 3000) :
    Calls Try.prog 17 #[.agg #[.int .i64 B, .int .i64 N, .slice A G.length c], .int .i64 b, .int .i64 n, .slice P part.length cp] w (RetCo w (dCollect B N G b n part)) :=
  collect_any (Sl.of_own ho) (Nat.le_refl _) hb.ps (Nat.le_refl _) h3 hup3 hn hl hpl
/-- What Collect hands back, laid into a box that was made behind it. -/
theorem RetCo.box {w w5 W' : World} {q : Int × Int × List (List UInt8)} {A : Option Addr} {c : Nat} {vs : List Value} {D : Option Addr} {nd cd : Nat} {d : List UInt8} {g : Nat} {cs : Array Value} (ho : w5.ownsRow w.heap.size 23 1 (.slice A q.2.2.length c) q.2.2.length vs) (hb : Bs w5 w.heap.size vs q.2.2)
    (hd : w5.ownsRow w.heap.size 5 1 (.slice D nd cd) nd (byteCells d)) (hz : Blk w5 g 31 cs) (hk : Blk W' g 31 #[.int .i64 q.1, .int .i64 q.2.1, .slice A q.2.2.length c]) (hg : w5.grownBy W' (some g)) :
    PBox W' w.heap.size g q ∧ W'.ownsRow w.heap.size 5 1 (.slice D nd cd) nd (byteCells d) :=
  ⟨⟨A, c, vs, hk, own_grBlk ho hz (by decide) hg, hb.grBlk hz (by decide) hg⟩, own_grBlk hd hz (by decide) hg⟩

theorem cPart_inj {l : List UInt8} {s m j k : Nat} (hm : m ≤ 4096) (hj : j < m) (hk : k < m) (h : cPart l s m j = cPart l s m k) : j = k := by
  have e1 := rPart_cPart (l := l) (s := s) hm hj
  rw [h, rPart_cPart hm hk] at e1
  injection e1 with e1
  injection e1 with e1
  omega
theorem many_cPart {l : List UInt8} {s m k : Nat} (hm : m ≤ 4096) (hk : k < m) : dMany (cPart l s m k) = (m : Int) := by
  unfold dMany
  rw [rPart_cPart hm hk]
/-- Places, turned about. -/
def onKs (m t i : Nat) : List Nat := (List.range i).map fun j => (j + t) % m
theorem onKs_lt {m t i : Nat} (hm : 0 < m) : ∀ k ∈ onKs m t i, k < m := by
  intro k hk
  rw [onKs, List.mem_map] at hk
  obtain ⟨a, _, rfl⟩ := hk
  exact Nat.mod_lt _ hm
theorem onKs_all {m t : Nat} : ∀ k, k < m → k ∈ onKs m t m := by
  intro j hj
  rw [onKs, List.mem_map]
  refine ⟨(j + (m - t % m)) % m, List.mem_range.2 (Nat.mod_lt _ (by omega)), ?_⟩
  have ht := Nat.mod_lt t (show 0 < m by omega)
  rw [Nat.add_mod, Nat.mod_mod, ← Nat.add_mod, Nat.add_assoc, Nat.add_mod, show (m - t % m + t) % m = 0 from by
    have h1 : m - t % m + t = m + m * (t / m) := by have := Nat.mod_add_div t m; omega
    rw [h1, Nat.add_mul_mod_self_left, Nat.mod_self], Nat.add_zero, Nat.mod_mod, Nat.mod_eq_of_lt hj]
theorem turn_inj {m t i j : Nat} (hi : i < m) (hj : j < m) (h : (i + t) % m = (j + t) % m) : i = j := by
  have h1 := Nat.mod_add_div (i + t) m
  have h2 := Nat.mod_add_div (j + t) m
  rw [h] at h1
  rcases Nat.lt_trichotomy ((i + t) / m) ((j + t) / m) with h3 | h3 | h3
  · have : m * ((i + t) / m + 1) ≤ m * ((j + t) / m) := Nat.mul_le_mul_left _ h3
    rw [Nat.mul_add, Nat.mul_one] at this
    omega
  · rw [h3] at h1
    omega
  · have : m * ((j + t) / m + 1) ≤ m * ((i + t) / m) := Nat.mul_le_mul_left _ h3
    rw [Nat.mul_add, Nat.mul_one] at this
    omega
theorem onKs_new {m t i : Nat} (hi : i < m) : (i + t) % m ∉ onKs m t i := by
  intro h
  rw [onKs, List.mem_map] at h
  obtain ⟨j, hj, e⟩ := h
  have hj := List.mem_range.1 hj
  have := turn_inj (show j < m by omega) hi e
  omega
theorem onKs_succ (m t i : Nat) : onKs m t (i + 1) = onKs m t i ++ [(i + t) % m] := by
  unfold onKs
  rw [List.range_succ, List.map_append]
  rfl
/-- What is held behind i parts. -/
def onP (B N : Int) (l : List UInt8) (s m t i : Nat) : Int × Int × List (List UInt8) := if i = 0 then (0, 0, []) else (B, N, (onKs m t i).map (cPart l s m))
theorem on_join {l : List UInt8} {s m t i : Nat} (hm : m ≤ 4096) (hi : i < m) (hl : l.length ≤ m * s) : jJoin ((onKs m t (i + 1)).map (cPart l s m)) = if i + 1 = m then (l, 0) else ([], 190) := by
  by_cases h : i + 1 = m
  · rw [if_pos h]
    have h2 : onKs m t (i + 1) = onKs m t m := by rw [h]
    rw [h2]
    exact join_all hm (by omega) hl (onKs_lt (by omega)) onKs_all
  · rw [if_neg h]
    refine join_gone (g := (i + 1 + t) % m) hm (Nat.mod_lt _ (by omega)) (onKs_lt (by omega)) (onKs_new (by omega))
theorem once1 {B N : Int} {l : List UInt8} {s m t i : Nat} (hN : 1 ≤ N) (hm : m ≤ 4096) (hi : i < m) (hl : l.length ≤ m * s) :
    dCollect (onP B N l s m t i).1 (onP B N l s m t i).2.1 (onP B N l s m t i).2.2 B N (cPart l s m ((i + t) % m)) = ((B, N, (onKs m t (i + 1)).map (cPart l s m)), (if i + 1 = m then l else []), decide (i + 1 = m)) := by
  have hk : (i + t) % m < m := Nat.mod_lt _ (by omega)
  have hmn := many_cPart (l := l) (s := s) hm hk
  have hlen : (onP B N l s m t i).2.2.length = i := by
    unfold onP
    split
    · simp; omega
    · simp [onKs]
  have hnum : (onP B N l s m t i).2.1 ≤ N := by
    unfold onP
    split
    · show (0 : Int) ≤ N; omega
    · exact Int.le_refl _
  have hkeep : dKeep (onP B N l s m t i).1 (onP B N l s m t i).2.1 (onP B N l s m t i).2.2 B N (cPart l s m ((i + t) % m)) = (onKs m t i).map (cPart l s m) := by
    unfold dKeep onP
    by_cases h0 : i = 0
    · subst h0
      rw [if_pos rfl]
      simp only
      rw [if_neg (by omega)]
      rfl
    · rw [if_neg h0]
      simp only
      refine if_pos ⟨trivial, trivial, .inr ?_⟩
      rw [hmn]
      obtain ⟨a, r, e⟩ : ∃ a r, onKs m t i = a :: r := by
        cases h : onKs m t i with
        | nil => have : (onKs m t i).length = 0 := by rw [h]; rfl
                 rw [onKs, List.length_map, List.length_range] at this; omega
        | cons a r => exact ⟨a, r, rfl⟩
      rw [e, List.map_cons, List.headD_cons]
      exact many_cPart hm (onKs_lt (m := m) (t := t) (i := i) (by omega) a (by rw [e]; exact List.mem_cons_self ..))
  have hmore : dMore ((onKs m t i).map (cPart l s m)) (cPart l s m ((i + t) % m)) = (onKs m t (i + 1)).map (cPart l s m) := by
    unfold dMore
    rw [if_neg, onKs_succ, List.map_append]
    · rfl
    · intro h
      rw [List.mem_map] at h
      obtain ⟨j, hj, e⟩ := h
      have := cPart_inj hm (onKs_lt (by omega) j hj) hk e
      subst this
      exact onKs_new hi hj
  unfold dCollect
  rw [if_neg (by rw [hlen, hmn]; omega), hkeep, hmore, on_join hm hi hl]
  by_cases h : i + 1 = m
  · simp [h]
  · simp [h]
theorem once2 {B N : Int} {l : List UInt8} {s m t i : Nat} (hm : m ≤ 4096) (hi : i < m) (hl : l.length ≤ m * s) :
    dCollect B N ((onKs m t (i + 1)).map (cPart l s m)) B N (cPart l s m ((i + t) % m)) = ((B, N, (onKs m t (i + 1)).map (cPart l s m)), (if i + 1 = m then l else []), decide (i + 1 = m)) := by
  have hk : (i + t) % m < m := Nat.mod_lt _ (by omega)
  have hmn := many_cPart (l := l) (s := s) hm hk
  have hlen : ((onKs m t (i + 1)).map (cPart l s m)).length = i + 1 := by simp [onKs]
  have hin : (i + t) % m ∈ onKs m t (i + 1) := by rw [onKs_succ]; simp
  have hkeep : dKeep B N ((onKs m t (i + 1)).map (cPart l s m)) B N (cPart l s m ((i + t) % m)) = (onKs m t (i + 1)).map (cPart l s m) := by
    unfold dKeep
    refine if_pos ⟨rfl, rfl, .inr ?_⟩
    rw [hmn]
    obtain ⟨a, r, e⟩ : ∃ a r, onKs m t (i + 1) = a :: r := by
      cases h : onKs m t (i + 1) with
      | nil => rw [h] at hin; cases hin
      | cons a r => exact ⟨a, r, rfl⟩
    rw [e, List.map_cons, List.headD_cons]
    exact many_cPart hm (onKs_lt (m := m) (t := t) (i := i + 1) (by omega) a (by rw [e]; exact List.mem_cons_self ..))
  have hmore : dMore ((onKs m t (i + 1)).map (cPart l s m)) (cPart l s m ((i + t) % m)) = (onKs m t (i + 1)).map (cPart l s m) := by
    unfold dMore
    rw [if_pos (List.mem_map.2 ⟨_, hin, rfl⟩)]
  unfold dCollect
  rw [if_neg (by rw [hlen, hmn]; omega), hkeep, hmore, on_join hm hi hl]
  by_cases h : i + 1 = m
  · simp [h]
  · simp [h]
theorem once3 {B N n : Int} {G : List (List UInt8)} {part : List UInt8} (h : n < N) : dCollect B N G B n part = ((B, N, G), [], false) := by
  unfold dCollect
  rw [if_pos (.inl h)]
end Go.Proofs.Ytfeeincglijmjaa
