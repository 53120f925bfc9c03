/- Texts of this seat, one behind the other. -/
import Derived.Test.YtfeeincglijmjaaZB4
import Derived.Test.YtfeeincglijmjaaZB2
import Derived.Test.YtfeeincglijmjaaZB3
import Derived.Deep.LoopGhost
import Derived.Deep.DeepCutAuto
import Derived.Maps.OwnSet
import Derived.Deep.RegionHeld3
namespace Go.Proofs.Ytfeeincglijmjaa
/- The walk of diff.read. -/
section
open Go.RowKit
set_option linter.unusedVariables false
set_option linter.unusedSimpArgs false
attribute [local go_sem ↓] Go.wp_at_zero Go.wp_at_succ

/-- A part, taken apart: its place, how many there are, its bytes. -/
def rPart (b : List UInt8) : Option (Int × Int × List UInt8) :=
  if (vGet b).2.2 ≠ 0 then none else
  if (vGet (b.drop (vGet b).2.1)).2.2 ≠ 0 ∨ 4096 < (vGet (b.drop (vGet b).2.1)).1 ∨ (vGet (b.drop (vGet b).2.1)).1 ≤ (vGet b).1 then none else
  some ((vGet b).1, (vGet (b.drop (vGet b).2.1)).1, b.drop ((vGet b).2.1 + (vGet (b.drop (vGet b).2.1)).2.1))
/-- What read hands back. -/
def RetPt (w : World) (lo up : Nat) (q : Option (Int × Int × List UInt8)) (e : Ending) (w' : World) : Prop :=
  Below w.heap.size w w' ∧ match q with
    | none => e = .returned (.tuple #[.agg #[.int .i64 0, .int .i64 0, .slice none 0 0], .bool false])
    | some (k, m, r) => ∃ A c, e = .returned (.tuple #[.agg #[.int .i64 k, .int .i64 m, .slice A r.length c], .bool true]) ∧ Sl w lo up 1 A r.length c (byteCells r)

set_option maxHeartbeats 4000000 in
set_option maxRecDepth 100000 in
theorem read_any {lo up : Nat} {A : Option Addr} {n c : Nat} {l : List UInt8} {w : World} (hr : Sl w lo up 1 A n c (byteCells l)) (hup : up ≤ w.heap.size) (hn : n ≤ 1000000) :
    Calls Try.prog 71 #[.slice A n c] w (RetPt w lo up (rPart l)) := by
  obtain ⟨j0, hj0, jz0, jz1, jz2⟩ := info_parts info5
  have hl0 : n = l.length := by have := hr.len; rw [byteCells_length] at this; omega
  subst hl0
  have bb := (Below.refl w.heap.size w).alloc (Nat.le_refl _) (.cells #[.int .i64 0, .int .i64 0, .slice none 0 0] 106)
  have bk := Blk.new w 106 #[.int .i64 0, .int .i64 0, .slice none 0 0] rfl
  have ⟨kc, kf⟩ := bk.rules
  have a1 := addr_add w.heap.size 0 1
  have a2 := addr_add w.heap.size 0 2
  have HG := Lib.hid (fun n c A l (h : Sl w lo up 1 A n c (byteCells l)) => get_any (h.alloc hup (.cells #[.int .i64 0, .int .i64 0, .slice none 0 0] 106)))
  unfold rPart
  rcases vGet_cases l with ⟨g0, g1, g2⟩ | g0
  rotate_left
  · rw [if_pos (by rw [g0]; decide)]
    go_enter Try.func71, Try.ntmps71
    go_wp2_with fail
    refine (HG.out _ _ _ _ hr).mono ?_
    rintro e w2 ⟨rfl, rfl⟩
    rw [g0]
    go_wp2_with fail
    refine bodyPost_ret (v := .tuple #[.agg #[.int .i64 0, .int .i64 0, .slice none 0 0], .bool false]) (by simp [results, Try.results71, go_sem]) rfl ⟨?_, rfl⟩
    exact bb
  · rw [if_neg (by rw [g0]; decide)]
    obtain ⟨A3, hcut, hs3⟩ := cut_l Try.underlying23 hj0 jz1 hr (vGet l).2.1 (l.length - (vGet l).2.1) ((vGet l).2.1 : Int) rfl (by omega)
    rw [Nat.mul_one, byteCells_drop] at hs3
    have HG1 := HG.out _ _ _ _ hr
    have HG2 := HG.out _ _ _ _ hs3
    have hcut2 : ∀ (s : Nat), s ≤ l.length - (vGet l).2.1 → ∃ A', (∀ w', (Instr.slice 23 (.slice A l.length c) (some (.int .i64 (((vGet l).2.1 : Int) + (s : Int)))) none none).run Try.prog w' = .ok (.slice A' (l.length - ((vGet l).2.1 + s)) (c - ((vGet l).2.1 + s))) w') ∧ Sl w lo up 1 A' (l.length - ((vGet l).2.1 + s)) (c - ((vGet l).2.1 + s)) (byteCells (l.drop ((vGet l).2.1 + s))) := by
      intro s hs
      obtain ⟨A4, h4, s4⟩ := cut_l Try.underlying23 hj0 jz1 hr ((vGet l).2.1 + s) (l.length - ((vGet l).2.1 + s)) (((vGet l).2.1 : Int) + (s : Int)) (by omega) (by omega)
      rw [Nat.mul_one, byteCells_drop] at s4
      exact ⟨A4, h4, s4⟩
    have hl3 : (l.drop (vGet l).2.1).length = l.length - (vGet l).2.1 := List.length_drop
    have hc2 := vGet_cases (l.drop (vGet l).2.1)
    rw [hl3] at hc2
    obtain ⟨⟨x, s, e0⟩, hq⟩ : ∃ q, q = vGet l := ⟨_, rfl⟩
    rw [← hq] at HG1 HG2 hcut hcut2 hc2 g0 g1 g2 ⊢
    simp only at HG1 HG2 hcut hcut2 hc2 g0 g1 g2 ⊢
    subst g0
    clear hq hl3 hs3
    obtain ⟨⟨y, s2, e2⟩, hq⟩ : ∃ q, q = vGet (l.drop s) := ⟨_, rfl⟩
    rw [← hq] at HG2 hc2 ⊢
    simp only at HG2 hc2 ⊢
    clear hq
    have HG1 := Lib.hid HG1
    have HG2 := Lib.hid HG2
    have hsb : (s : Int) ≤ l.length := by omega
    have hsb2 : (s : Int) ≤ 1000000 := by omega
    rcases hc2 with ⟨rfl, t1, t2⟩ | hc2
    rotate_left
    · injection hc2 with e1 e2'
      injection e2' with e2' e3'
      subst e1 e2' e3'
      rw [if_pos (.inl (by decide))]
      go_enter Try.func71, Try.ntmps71
      go_wp2_with fail
      refine HG1.out.mono ?_
      rintro e w2 ⟨rfl, rfl⟩
      go_wp2_with fail
      refine HG2.out.mono ?_
      rintro e w2 ⟨rfl, rfl⟩
      go_wp2_with fail
      refine bodyPost_ret (v := .tuple #[.agg #[.int .i64 0, .int .i64 0, .slice none 0 0], .bool false]) (by simp [results, Try.results71, go_sem]) rfl ⟨?_, rfl⟩
      exact bb
    · obtain ⟨A4, hcut4, s4⟩ := hcut2 s2 t2
      clear hcut2
      have hsb3 : (s2 : Int) ≤ 1000000 := by omega
      have hsum : (s : Int) + (s2 : Int) ≤ l.length := by omega
      by_cases hm : 4096 < y
      · rw [if_pos (.inr (.inl hm))]
        go_enter Try.func71, Try.ntmps71
        go_wp2_with fail
        refine HG1.out.mono ?_
        rintro e w2 ⟨rfl, rfl⟩
        go_wp2_with fail
        refine HG2.out.mono ?_
        rintro e w2 ⟨rfl, rfl⟩
        go_wp2_with fail
        refine bodyPost_ret (v := .tuple #[.agg #[.int .i64 0, .int .i64 0, .slice none 0 0], .bool false]) (by simp [results, Try.results71, go_sem]) rfl ⟨?_, rfl⟩
        exact bb
      · by_cases hat : y ≤ x
        · rw [if_pos (.inr (.inr hat))]
          go_enter Try.func71, Try.ntmps71
          go_wp2_with fail
          refine HG1.out.mono ?_
          rintro e w2 ⟨rfl, rfl⟩
          go_wp2_with fail
          refine HG2.out.mono ?_
          rintro e w2 ⟨rfl, rfl⟩
          go_wp2_with fail
          refine bodyPost_ret (v := .tuple #[.agg #[.int .i64 0, .int .i64 0, .slice none 0 0], .bool false]) (by simp [results, Try.results71, go_sem]) rfl ⟨?_, rfl⟩
          exact bb
        · rw [if_neg (by omega)]
          have hld : (l.drop (s + s2)).length = l.length - (s + s2) := List.length_drop
          have HLD := Lib.hid hld
          clear hld
          go_enter Try.func71, Try.ntmps71
          go_wp2_with fail
          refine HG1.out.mono ?_
          rintro e w2 ⟨rfl, rfl⟩
          go_wp2_with fail
          refine HG2.out.mono ?_
          rintro e w2 ⟨rfl, rfl⟩
          go_wp2_with fail
          refine bodyPost_ret (v := .tuple #[.agg #[.int .i64 x, .int .i64 y, .slice A4 (l.length - (s + s2)) (c - (s + s2))], .bool true]) (by simp [results, Try.results71, go_sem]) rfl ⟨?_, A4, c - (s + s2), by rw [HLD.out], by rw [HLD.out]; exact s4⟩
          exact (Below.refl w.heap.size w).alloc (Nat.le_refl _) _
end

/- The walk of diff.Cut. -/
section
open Go.RowKit
set_option linter.unusedVariables false
set_option linter.unusedSimpArgs false
attribute [local go_sem ↓] Go.wp_at_zero Go.wp_at_succ

theorem info23 : (Try.prog.info? 23).map (fun i => (i.zero, i.size, i.bytes)) = some (some (.slice none 0 0), 1, 24) := by kernel_rfl
theorem vSize_ok {x : Int} (h0 : 0 ≤ x) (h1 : x ≤ 4611686018427387903) : vSize x ≠ 0 := by
  unfold vSize
  rw [if_neg (by omega)]
  split
  · decide
  · split
    · decide
    · split <;> decide
theorem vJoin_ok {l : List Int} (h : ∀ x ∈ l, 0 ≤ x ∧ x ≤ 4611686018427387903) : vJoin l = (vCat l, 0) := by
  unfold vJoin
  rw [if_pos (fun x hx => vSize_ok (h x hx).1 (h x hx).2)]
/-- Values that are rows of bytes of the callee's own. -/
def Bs (w : World) (base : Nat) (vs : List Value) (ps : List (List UInt8)) : Prop :=
  vs.length = ps.length ∧ ∀ (i : Nat) (v : Value) (p : List UInt8), vs[i]? = some v → ps[i]? = some p → ∃ (A : Option Addr) (c : Nat), v = Value.slice A p.length c ∧ w.ownsRow base 5 1 (Value.slice A p.length c) p.length (byteCells p)
theorem Bs.nil (w : World) (base : Nat) : Bs w base [] [] := ⟨rfl, fun i v p h => by cases h⟩
theorem Bs.below {w w' : World} {base B : Nat} {vs : List Value} {ps : List (List UInt8)} (h : Bs w base vs ps) (hb : Below B w w') (hB : w.heap.size ≤ B) : Bs w' base vs ps :=
  ⟨h.1, fun i v p h1 h2 => by
    obtain ⟨A, c, e, ho⟩ := h.2 i v p h1 h2
    exact ⟨A, c, e, own_below ho hb hB⟩⟩
theorem Bs.more {w : World} {base base' : Nat} {vs : List Value} {ps : List (List UInt8)} (h : Bs w base vs ps) (hb : base' ≤ base) : Bs w base' vs ps :=
  ⟨h.1, fun i v p h1 h2 => by
    obtain ⟨A, c, e, ho⟩ := h.2 i v p h1 h2
    exact ⟨A, c, e, own_more ho hb⟩⟩
/-- A row of one type stays, where a row of another type grows. -/
theorem own_apart {w w' : World} {base base2 : Nat} {e e2 : TypeId} {s s2 : Nat} {v v2 : Value} {n n2 : Nat} {xs xs2 : List Value} (h : w.ownsRow base e s v n xs) (h2 : w.ownsRow base2 e2 s2 v2 n2 xs2) (hne : e ≠ e2) (hg : w.grownBy w' v2.ownBlock) : w'.ownsRow base e s v n xs := by
  refine ⟨h.1, ?_⟩
  rcases h.2 with h3 | ⟨g, cap, cur, hv, hgb, hh, r⟩
  · exact .inl h3
  · refine .inr ⟨g, cap, cur, hv, hgb, (hg.block g (Array.getElem?_eq_some_iff.1 hh).1 (fun e' => ?_)).trans hh, r⟩
    rcases h2.2 with ⟨e4, _⟩ | ⟨g2, cap2, cur2, hv2, _, hh2, _⟩
    · rw [e4] at e'
      simp [Value.ownBlock] at e'
    · rw [hv2] at e'
      simp only [Value.ownBlock, Option.some.injEq] at e'
      subst e'
      rw [hh] at hh2
      injection hh2 with hh2
      injection hh2 with _ ht
      exact hne ht
theorem Bs.apart {w w' : World} {base base2 : Nat} {vs : List Value} {ps : List (List UInt8)} {e2 : TypeId} {s2 n2 : Nat} {v2 : Value} {xs2 : List Value} (h : Bs w base vs ps) (h2 : w.ownsRow base2 e2 s2 v2 n2 xs2) (hne : (5 : TypeId) ≠ e2) (hg : w.grownBy w' v2.ownBlock) : Bs w' base vs ps :=
  ⟨h.1, fun i v p h1 h3 => by
    obtain ⟨A, c, e, ho⟩ := h.2 i v p h1 h3
    exact ⟨A, c, e, own_apart ho h2 hne hg⟩⟩
theorem Bs.snoc {w : World} {base : Nat} {vs : List Value} {ps : List (List UInt8)} (h : Bs w base vs ps) {A : Option Addr} {p : List UInt8} {n c : Nat} (hn : n = p.length) (ho : w.ownsRow base 5 1 (.slice A n c) n (byteCells p)) : Bs w base (vs ++ [Value.slice A n c]) (ps ++ [p]) := by
  subst hn
  refine ⟨by simp [h.1], fun i v q h1 h2 => ?_⟩
  by_cases hi : i < vs.length
  · rw [List.getElem?_append_left hi] at h1
    rw [List.getElem?_append_left (by rw [← h.1]; exact hi)] at h2
    exact h.2 i v q h1 h2
  · rw [List.getElem?_append_right (by omega)] at h1
    rw [List.getElem?_append_right (by rw [← h.1]; omega)] at h2
    rw [h.1] at h1
    generalize i - ps.length = k at *
    cases k with
    | succ k => simp at h1
    | zero =>
      simp only [List.getElem?_cons_zero, Option.some.injEq] at h1 h2
      subst h1 h2
      exact ⟨A, c, rfl, ho⟩
/-- A part. -/
def cPart (l : List UInt8) (s m k : Nat) : List UInt8 := vCat [(k : Int), (m : Int)] ++ (l.drop (k * s)).take s
/-- How large the bytes of a part are; how many there are. -/
def cSz (z : Int) : Nat := (min (max z 20) 2048 - 8).toNat
def cMany (n s : Nat) : Nat := max ((n + s - 1) / s) 1
/-- Parts. -/
def cParts (l : List UInt8) (z : Int) : List (List UInt8) := (List.range (cMany l.length (cSz z))).map (cPart l (cSz z) (cMany l.length (cSz z)))
theorem cSz_bnd (z : Int) : 12 ≤ cSz z ∧ cSz z ≤ 2040 := by unfold cSz; omega
theorem cMany_bnd {n s i : Nat} (hs : 12 ≤ s) (hn : n ≤ 1000000) : 1 ≤ cMany n s ∧ cMany n s ≤ 1000000 ∧ (i < cMany n s → i * s ≤ n) := by
  unfold cMany
  have hd : (n + s - 1) / s * s ≤ n + s - 1 := Nat.div_mul_le_self _ _
  have hq : (n + s - 1) / s ≤ n + s - 1 := Nat.div_le_self _ _
  refine ⟨by omega, ?_, fun hi => ?_⟩
  · have : (n + s - 1) / s * 12 ≤ (n + s - 1) / s * s := Nat.mul_le_mul_left _ hs
    have h2 : (n + s - 1) / s * s ≤ n + s - 1 := hd
    rcases Nat.lt_or_ge n 1 with h0 | h0
    · have : (n + s - 1) / s = 0 := Nat.div_eq_of_lt (by omega)
      omega
    · have : (n + s - 1) / s ≤ n := by
        apply Nat.div_le_of_le_mul
        have : n * 1 ≤ n * s := Nat.mul_le_mul_left _ (by omega)
        have h3 : s * n = n * s := Nat.mul_comm _ _
        have h4 : (n - 1) * (s - 1) + n + s - 1 ≤ n * s := by
          obtain ⟨a, rfl⟩ : ∃ a, n = a + 1 := ⟨n - 1, by omega⟩
          obtain ⟨b, rfl⟩ : ∃ b, s = b + 1 := ⟨s - 1, by omega⟩
          simp only [Nat.add_sub_cancel, Nat.add_mul, Nat.mul_add, Nat.mul_one, Nat.one_mul]
          omega
        omega
      omega
  · rcases Nat.lt_or_ge i ((n + s - 1) / s) with h | h
    · have h1 : (i + 1) * s ≤ (n + s - 1) / s * s := Nat.mul_le_mul_right _ h
      rw [Nat.add_mul, Nat.one_mul] at h1
      omega
    · have : i = 0 := by omega
      subst this
      omega
def RetPs (w : World) (ps : List (List UInt8)) (e : Ending) (w' : World) : Prop :=
  ∃ A c vs, e = .returned (.slice A ps.length c) ∧ w'.ownsRow w.heap.size 23 1 (.slice A ps.length c) ps.length vs ∧ Bs w' w.heap.size vs ps ∧ Below w.heap.size w w'
set_option maxHeartbeats 8000000 in
set_option maxRecDepth 100000 in
theorem cut_any {lo up : Nat} {A : Option Addr} {n c : Nat} {l : List UInt8} {z : Int} {w : World} (hr : Sl w lo up 1 A n c (byteCells l)) (hup : up ≤ w.heap.size) (hn : n ≤ 1000000) :
    Calls Try.prog 22 #[.slice A n c, .int .i64 z] w (RetPs w (cParts l z)) := by
  obtain ⟨i0, hi0, hz0, hz1, hz2⟩ := info_parts info23
  obtain ⟨j0, hj0, jz0, jz1, jz2⟩ := info_parts info5
  have hl0 : n = l.length := by have := hr.len; rw [byteCells_length] at this; omega
  subst hl0
  have HR := Lib.hid hr
  have hsz := cSz_bnd z
  obtain ⟨s, hs⟩ : ∃ s, s = cSz z := ⟨_, rfl⟩
  obtain ⟨m, hm⟩ : ∃ m, m = cMany l.length s := ⟨_, rfl⟩
  have hdiv : ((l.length : Int) + (s : Int) - 1) / (s : Int) = ((l.length + s - 1) / s : Nat) := by
    rw [show (l.length : Int) + (s : Int) - 1 = ((l.length + s - 1 : Nat) : Int) from by omega]
    rfl
  have hmm := hm
  unfold cMany at hmm
  obtain ⟨q, hq⟩ : ∃ q, q = (l.length + s - 1) / s := ⟨_, rfl⟩
  rw [← hq] at hdiv hmm
  have Hcp : Hid (cParts l z = (List.range m).map (cPart l s m)) := Lib.hid (by unfold cParts; rw [← hs, ← hm])
  generalize cParts l z = PS at *
  rw [← hs] at hsz
  have hmb : ∀ i, 1 ≤ m ∧ m ≤ 1000000 ∧ (i < m → i * s ≤ l.length) := fun i => by rw [hm]; exact cMany_bnd hsz.1 hn
  have Hmb := Lib.hid hmb
  have hm1 := (hmb 0).1
  have hm2 := (hmb 0).2.1
  have Hs : Hid ((s : Int) = min (max z 20) 2048 - 8) := Lib.hid (by rw [hs]; unfold cSz; omega)
  have HD := Lib.hid hdiv
  have Hmm : Hid ((q < 1 ∧ m = 1) ∨ (1 ≤ q ∧ m = q)) := Lib.hid (by omega)
  have hs1 : (12 : Int) ≤ s := by omega
  have hs2 : (s : Int) ≤ 2040 := by omega
  have hn' : (l.length : Int) ≤ 1000000 := by omega
  have hn0 : (0 : Int) ≤ l.length := by omega
  clear hr hdiv hmm hq hm hs hmb
  go_enter Try.func22, Try.ntmps22
  go_upto_region 1 with fail
  go_cut [1] (fun s1 wx => s1 = .int .i64 s ∧ w = wx)
  case first =>
    have hs3 := Hs.out
    rcases Int.lt_or_le z 20 with h1 | h1
    · have hs4 : (s : Int) = 12 := by omega
      clear hs3
      go_wp2_with fail
      go_meet
      exact ⟨by rw [hs4], rfl⟩
    · rcases Int.lt_or_le 2048 z with h2 | h2
      · have hs4 : (s : Int) = 2040 := by omega
        clear hs3
        go_wp2_with fail
        go_meet
        exact ⟨by rw [hs4], rfl⟩
      · have hs4 : (s : Int) = z - 8 := by omega
        clear hs3
        go_wp2_with fail
        go_meet
        exact ⟨by rw [hs4], rfl⟩
  case rest =>
    obtain ⟨rfl, rfl⟩ := hcut
    clear Hs
    go_upto_region 2 with fail
    go_cut [5] (fun s5 wx => s5 = .int .i64 m ∧ w = wx)
    case first =>
      have hd := HD.out
      rcases Hmm.out with ⟨h1, h2⟩ | ⟨h1, h2⟩
      · have h3 : (q : Int) < 1 := by omega
        have h4 : (m : Int) = 1 := by omega
        clear h2
        go_wp2_with fail
        go_meet
        exact ⟨by rw [h4], rfl⟩
      · have h3 : 1 ≤ (q : Int) := by omega
        have h4 : (m : Int) = q := by omega
        clear h2
        go_wp2_with fail
        go_meet
        exact ⟨by rw [h4], rfl⟩
    case rest =>
      obtain ⟨rfl, rfl⟩ := hcut
      clear HD Hmm
      have hm3 : (m : Int) ≤ 1000000 := by omega
      go_wp2_with fail
      go_loopg [4, 22] m (fun gh s4 s22 wr => ∃ (i : Nat) (A2 : Option Addr) (c2 : Nat) (vs : List Value), gh = m - i ∧ i ≤ m ∧ s22 = .int .i64 i ∧ s4 = .slice A2 i c2 ∧ wr.ownsRow w.heap.size 23 1 (.slice A2 i c2) i vs ∧ Hid (Bs wr w.heap.size vs ((List.range i).map (cPart l s m))) ∧ Below w.heap.size w wr)
      case atStart => exact ⟨0, none, 0, [], rfl, Nat.zero_le _, rfl, rfl, World.ownsRow_nil _ _ _ _, Lib.hid (Bs.nil _ _), Below.refl _ _⟩
      case round =>
        obtain ⟨i, A2, c2, vs, hgh, him, rfl, rfl, hown, hbs, bb⟩ := hrel
        have HG := Lib.hid hgh
        clear hgh
        have zz := bb.size
        by_cases h : i < m
        · have hP := (Hmb.out i).2.2 h
          obtain ⟨P, hPe⟩ : ∃ P, P = i * s := ⟨_, rfl⟩
          rw [← hPe] at hP
          have hPI : (i : Int) * (s : Int) = P := by rw [hPe]; simp
          have hPI2 : ((i : Int) + 1) * (s : Int) = P + s := by rw [Int.add_mul, hPI]; omega
          have HPe := Lib.hid hPe
          clear hPe
          have hP2 : (P : Int) ≤ l.length := by omega
          have w1 : IntKind.i64.wrap ((i : Int) * (s : Int)) = P := by rw [hPI]; exact IntWalk.i64_in _ (by omega)
          have w2 : IntKind.i64.wrap (((i : Int) + 1) * (s : Int)) = P + s := by rw [hPI2]; exact IntWalk.i64_in _ (by omega)
          clear hPI hPI2
          have hi3 : (i : Int) < m := by omega
          have HJ := join_any (l := [(i : Int), (m : Int)]) (Sl.new wr 3 #[.int .i64 i, .int .i64 m] 1 2 2 (intCells [(i : Int), (m : Int)]) rfl (Nat.le_refl _) rfl rfl) (by simp) (by omega) (by intro x hx; simp at hx; omega)
          rw [vJoin_ok (by intro x hx; simp at hx; omega)] at HJ
          simp only at HJ
          have HJ := Lib.hid HJ
          obtain ⟨V, hV⟩ : ∃ V, V = vCat [(i : Int), (m : Int)] := ⟨_, rfl⟩
          have hVl : V.length ≤ 16 := by rw [hV]; exact vCat_le _
          rw [← hV] at HJ
          have HV := Lib.hid hV
          clear hV
          obtain ⟨k, hk⟩ : ∃ k, k = min s (l.length - P) := ⟨_, rfl⟩
          obtain ⟨A3, hcut3, hs3⟩ := cut_lh Try.underlying23 hj0 jz1 HR.out P k (P : Int) (((P + k : Nat)) : Int) rfl (by omega) (by omega)
          rw [Nat.mul_one, Nat.mul_one, byteCells_drop, byteCells_take] at hs3
          have hkk : (l.drop P).take k = (l.drop P).take s := by
            rw [hk]
            rcases Nat.le_total s (l.length - P) with h | h
            · rw [Nat.min_eq_left h]
            · rw [Nat.min_eq_right h, List.take_of_length_le (by rw [List.length_drop]; exact Nat.le_refl _), List.take_of_length_le (by rw [List.length_drop]; exact h)]
          rw [hkk] at hs3
          have HS3 := Lib.hid hs3
          have Hcut3 := Lib.hid hcut3
          have hk2 : k ≤ 2040 := by omega
          clear hs3 hcut3 hkk
          have Hk := Lib.hid hk
          clear hk
          go_wp2_with fail
          refine HJ.out.mono ?_
          rintro e w3 ⟨A4, c4, rfl, own4, hb4⟩
          have hb4' : Below wr.heap.size wr w3 := ((Below.refl wr.heap.size wr).alloc (Nat.le_refl _) _).trans (hb4.mono (by simp))
          have zz3 := hb4'.size
          have own4' := own_more own4 (base' := wr.heap.size) (by simp)
          have hge : ∀ k, Value.ownBlock (.slice A4 V.length c4) = some k → wr.heap.size ≤ k := fun k hk => (own4'.lt k hk).1
          have sl3 := HS3.out.below (bb.trans (hb4'.mono zz)) hup
          clear hb4 own4 HJ
          rcases Nat.lt_or_ge l.length (P + s) with hc | hc
          · have hcut3 := Hcut3.out
            rw [show ((P + k : Nat) : Int) = (l.length : Int) from by have := Hk.out; omega] at hcut3
            have hdm : ((l.length : Int) < (P : Int) + (s : Int)) = True := eq_true (by omega)
            have hdm2 : decide ((l.length : Int) < (P : Int) + (s : Int)) = true := by simp; omega
            clear Hk hc hP2 hP
            go_wp2_with (first
              | (at_builtin; refine wpList_append_sl _ rfl (.tmp 33) (.tmp 45) 23 rfl w.heap.size 5 j0 _ 1 1 Try.underlying23 hj0 jz0 jz1 jz2 rfl (by omega) (.slice A4 V.length c4) V.length (byteCells V) rfl (own_more own4' zz) lo up A3 k (c - P) (byteCells ((l.drop P).take s)) rfl sl3 (byteCells_one _) (V.length + k) rfl _ rfl (by unfold maxLen; omega) (by omega) (by omega) ?_; intro A5 c5 w5 hown5 hg5; have b5 := hb4'.grown hg5 zz3 hge; have own2 := own_below hown b5 (Nat.le_refl _); have zz5 := b5.size; have Hb5 := Lib.hid b5; have Hown5 := Lib.hid hown5; clear hg5 b5 hown5)
              | (at_builtin; refine wpList_append_sl _ rfl (.tmp 32) (.tmp 47) 29 rfl w.heap.size 23 i0 _ 1 24 Try.underlying29 hi0 hz0 hz1 hz2 rfl (by omega) (.slice A2 i c2) i vs rfl (own_alloc own2 _) w5.heap.size (w5.heap.size + 1) (some ⟨w5.heap.size, 0, none⟩) 1 1 [.slice A5 (V.length + k) c5] rfl (Sl.new w5 23 #[.slice A5 (V.length + k) c5] 1 1 1 _ rfl (Nat.le_refl _) rfl rfl) (by intro u hu; simp at hu; subst hu; rfl) (i + 1) rfl _ rfl (by unfold maxLen; omega) (by omega) (by simp; omega) ?_; intro A6 c6 w6 hown6 hg6; have Hown6 := Lib.hid hown6; have Hg6 := Lib.hid hg6; clear hown6 hg6))
            go_roundg (m - (i + 1))
            case measure => have := HG.out; omega
            case rel =>
              refine ⟨i + 1, A6, c6, _, rfl, by omega, by go_num, rfl, Hown6.out, Lib.hid ?_, ?_⟩
              · rw [List.range_succ, List.map_append, List.map_cons, List.map_nil]
                have hpart : cPart l s m i = V ++ (l.drop P).take s := by rw [HV.out, HPe.out]; rfl
                rw [hpart]
                have e1 := Hown5.out
                rw [← byteCells_append] at e1
                have al := (Below.refl w5.heap.size w5).alloc (Nat.le_refl _) (.cells #[.slice A5 (V.length + k) c5] 23)
                exact ((((hbs.out.below Hb5.out (Nat.le_refl _)).below al (Nat.le_refl _))).snoc (by have := e1.1; rw [byteCells_length] at this; omega) (own_below e1 al (Nat.le_refl _))).apart (own_alloc own2 _) (by decide) Hg6.out
              · exact ((bb.trans (Hb5.out.mono zz)).alloc (by omega) _).grown Hg6.out (by simp; omega) (fun k hk => ((own_alloc own2 (.cells #[.slice A5 (V.length + k) c5] 23)).lt k hk).1)
          · have hcut3 := Hcut3.out
            rw [show ((P + k : Nat) : Int) = (P : Int) + (s : Int) from by have := Hk.out; omega] at hcut3
            have hdm : ((l.length : Int) < (P : Int) + (s : Int)) = False := eq_false (by omega)
            have hdm2 : decide ((l.length : Int) < (P : Int) + (s : Int)) = false := by simp; omega
            clear Hk hc hP2 hP
            go_wp2_with (first
              | (at_builtin; refine wpList_append_sl _ rfl (.tmp 33) (.tmp 45) 23 rfl w.heap.size 5 j0 _ 1 1 Try.underlying23 hj0 jz0 jz1 jz2 rfl (by omega) (.slice A4 V.length c4) V.length (byteCells V) rfl (own_more own4' zz) lo up A3 k (c - P) (byteCells ((l.drop P).take s)) rfl sl3 (byteCells_one _) (V.length + k) rfl _ rfl (by unfold maxLen; omega) (by omega) (by omega) ?_; intro A5 c5 w5 hown5 hg5; have b5 := hb4'.grown hg5 zz3 hge; have own2 := own_below hown b5 (Nat.le_refl _); have zz5 := b5.size; have Hb5 := Lib.hid b5; have Hown5 := Lib.hid hown5; clear hg5 b5 hown5)
              | (at_builtin; refine wpList_append_sl _ rfl (.tmp 32) (.tmp 47) 29 rfl w.heap.size 23 i0 _ 1 24 Try.underlying29 hi0 hz0 hz1 hz2 rfl (by omega) (.slice A2 i c2) i vs rfl (own_alloc own2 _) w5.heap.size (w5.heap.size + 1) (some ⟨w5.heap.size, 0, none⟩) 1 1 [.slice A5 (V.length + k) c5] rfl (Sl.new w5 23 #[.slice A5 (V.length + k) c5] 1 1 1 _ rfl (Nat.le_refl _) rfl rfl) (by intro u hu; simp at hu; subst hu; rfl) (i + 1) rfl _ rfl (by unfold maxLen; omega) (by omega) (by simp; omega) ?_; intro A6 c6 w6 hown6 hg6; have Hown6 := Lib.hid hown6; have Hg6 := Lib.hid hg6; clear hown6 hg6))
            go_roundg (m - (i + 1))
            case measure => have := HG.out; omega
            case rel =>
              refine ⟨i + 1, A6, c6, _, rfl, by omega, by go_num, rfl, Hown6.out, Lib.hid ?_, ?_⟩
              · rw [List.range_succ, List.map_append, List.map_cons, List.map_nil]
                have hpart : cPart l s m i = V ++ (l.drop P).take s := by rw [HV.out, HPe.out]; rfl
                rw [hpart]
                have e1 := Hown5.out
                rw [← byteCells_append] at e1
                have al := (Below.refl w5.heap.size w5).alloc (Nat.le_refl _) (.cells #[.slice A5 (V.length + k) c5] 23)
                exact ((((hbs.out.below Hb5.out (Nat.le_refl _)).below al (Nat.le_refl _))).snoc (by have := e1.1; rw [byteCells_length] at this; omega) (own_below e1 al (Nat.le_refl _))).apart (own_alloc own2 _) (by decide) Hg6.out
              · exact ((bb.trans (Hb5.out.mono zz)).alloc (by omega) _).grown Hg6.out (by simp; omega) (fun k hk => ((own_alloc own2 (.cells #[.slice A5 (V.length + k) c5] 23)).lt k hk).1)
        · obtain rfl : i = m := by omega
          go_wp2_with fail
          go_ret
          refine ⟨A2, c2, vs, ?_, ?_, ?_, bb⟩
          · rw [Hcp.out]; simp
          · rw [Hcp.out]; simpa using hown
          · rw [Hcp.out]; exact hbs.out
end

/- A map of places to bytes, as Join holds it: what it reads as, looked up, written. Plain law of Join. -/
section
open Go.RowKit
set_option linter.unusedVariables false
set_option linter.unusedSimpArgs false

/-- An element reads as itself. -/
def RV : Value → Option (DataW Value × List MemPlace) := fun v => some (.held v, [])
theorem keyed3 : Maps.Keyed Try.prog 3 := Maps.int_keyed Try.underlying3
def inK (k : Int) : Prop := 0 ≤ k ∧ k ≤ 4611686018427387903
theorem key3 {k : Int} (h : inK k) : keyOf Try.prog 3 (.int .i64 k) = some (.int .i64 k) := Maps.keyOf_int_mk Try.underlying3 (WalkArith.wf_i64 (by unfold inK at h; omega))
theorem lit3 (k : Int) : WideAt.IsKeyLit (.int .i64 k) := trivial
/-- Block b is a map that holds S. -/
def MIs (w : World) (lo up b n : Nat) (S : List (Int × List UInt8)) : Prop :=
  ∃ D, w.ownsMap Try.prog 3 RV b n D ∧ Maps.size D = S.length ∧ (∀ k, Maps.has D (.int .i64 k) = (S.lookup k).isSome) ∧
    ∀ k p, S.lookup k = some p → ∃ (A : Option Addr) (c : Nat), (∀ z, D.atKey (.int .i64 k) z = .held (Value.slice A p.length c)) ∧ Sl w lo up 1 A p.length c (byteCells p)
theorem MIs.made (w : World) (lo up : Nat) : MIs (w.alloc (.map #[] 0)) lo up w.heap.size 0 [] :=
  ⟨.map [], World.ownsMap_made w _ _ _, rfl, fun k => rfl, fun k p h => by cases h⟩
theorem MIs.kept {w w' : World} {lo up b n : Nat} {S : List (Int × List UInt8)} {row : Option Nat} (h : MIs w lo up b n S) (hg : w.grownBy w' row) (hne : some b ≠ row) (hup : up ≤ w.heap.size) (hr : ∀ g, row = some g → g < lo ∨ up ≤ g) : MIs w' lo up b n S := by
  obtain ⟨D, h1, h2, h3, h4⟩ := h
  refine ⟨D, h1.kept hg hne, h2, h3, fun k p hk => ?_⟩
  obtain ⟨A, c, e, hs⟩ := h4 k p hk
  exact ⟨A, c, e, hs.grown hg hup hr⟩
theorem MIs.drewN {w : World} {lo up b n : Nat} {S : List (Int × List UInt8)} (h : MIs w lo up b n S) (q : Nat) : MIs (w.drewN q) lo up b n S := by
  obtain ⟨D, h1, h2, h3, h4⟩ := h
  refine ⟨D, h1, h2, h3, fun k p hk => ?_⟩
  obtain ⟨A, c, e, hs⟩ := h4 k p hk
  exact ⟨A, c, e, hs.drewN q⟩
theorem MIs.lt {w : World} {lo up b n : Nat} {S : List (Int × List UInt8)} (h : MIs w lo up b n S) : b < w.heap.size := by
  obtain ⟨D, h1, _⟩ := h
  exact h1.lt
theorem zero23 (w : World) : (zeroValue 23).run Try.prog w = .ok (.slice none 0 0) w := by kernel_rfl
theorem MIs.look_ok {w : World} {lo up b n : Nat} {S : List (Int × List UInt8)} (h : MIs w lo up b n S) {k : Int} (hk : inK k) :
    ∃ v, (Instr.lookup 104 (.map (some b)) (.int .i64 k) true).run Try.prog w = .ok (.tuple #[v, .bool (S.lookup k).isSome]) w ∧ ∀ p, S.lookup k = some p → ∃ (A : Option Addr) (c : Nat), v = Value.slice A p.length c ∧ Sl w lo up 1 A p.length c (byteCells p) := by
  obtain ⟨D, h1, h2, h3, h4⟩ := h
  obtain ⟨v, ps, hrun, hv⟩ := h1.look_ok keyed3 Try.underlying104 (zero23 w) (zd := .held (.slice none 0 0)) (zp := []) rfl (key3 hk)
  rw [h3] at hrun
  refine ⟨v, hrun, fun p hp => ?_⟩
  obtain ⟨A, c, e, hs⟩ := h4 k p hp
  rw [e] at hv
  simp only [RV, Option.some.injEq, Prod.mk.injEq, DataW.held.injEq] at hv
  exact ⟨A, c, hv.1, hs⟩
theorem MIs.look {w : World} {lo up b n : Nat} {S : List (Int × List UInt8)} (h : MIs w lo up b n S) {k : Int} (hk : inK k) :
    ∃ (A : Option Addr) (c : Nat), (Instr.lookup 104 (.map (some b)) (.int .i64 k) false).run Try.prog w = .ok (.slice A ((S.lookup k).getD []).length c) w ∧ Sl w lo up 1 A ((S.lookup k).getD []).length c (byteCells ((S.lookup k).getD [])) := by
  obtain ⟨D, h1, h2, h3, h4⟩ := h
  obtain ⟨v, ps, hrun, hv⟩ := h1.lookup keyed3 Try.underlying104 (zero23 w) (zd := .held (.slice none 0 0)) (zp := []) rfl (key3 hk)
  cases hS : S.lookup k with
  | none =>
    have hh := h3 k
    rw [hS] at hh
    rw [Maps.atKey_of_not_has hh] at hv
    simp only [RV, Option.some.injEq, Prod.mk.injEq, DataW.held.injEq] at hv
    obtain ⟨rfl, _⟩ := hv
    exact ⟨none, 0, hrun, Sl.empty _ _ _ _⟩
  | some p =>
    obtain ⟨A, c, e, hs⟩ := h4 k p hS
    rw [e] at hv
    simp only [RV, Option.some.injEq, Prod.mk.injEq, DataW.held.injEq] at hv
    obtain ⟨rfl, _⟩ := hv
    exact ⟨A, c, hrun, hs⟩
theorem MIs.len {w : World} {lo up b n : Nat} {S : List (Int × List UInt8)} (h : MIs w lo up b n S) (ty : TypeId) : (Builtin.len_ #[104] ty #[.map (some b)]).run Try.prog w = .ok (.int .i64 (S.length : Int)) w := by
  obtain ⟨D, h1, h2, h3, h4⟩ := h
  rw [h1.len Try.underlying104 ty, h2]
/-- S, with a place's bytes. -/
def jPut (S : List (Int × List UInt8)) (k : Int) (p : List UInt8) : List (Int × List UInt8) := if (S.lookup k).isSome then S else S ++ [(k, p)]
theorem lookup_snoc (S : List (Int × List UInt8)) (k k' : Int) (p : List UInt8) : (S ++ [(k, p)]).lookup k' = match S.lookup k' with | some q => some q | none => if k' = k then some p else none := by
  induction S with
  | nil =>
    by_cases h : k' = k
    · subst h; simp [List.lookup]
    · have : (k' == k) = false := by simpa using h
      simp [List.lookup, this, h]
  | cons x r ih =>
    obtain ⟨a, q⟩ := x
    by_cases h : k' = a
    · subst h; simp [List.lookup]
    · have : (k' == a) = false := by simpa using h
      simp only [List.cons_append, List.lookup, this]
      exact ih
theorem MIs.set {w : World} {lo up b n : Nat} {S : List (Int × List UInt8)} (h : MIs w lo up b n S) {k : Int} (hk : inK k) (hn : n < 1000000) {A : Option Addr} {c : Nat} {p : List UInt8} (hs : Sl w lo up 1 A p.length c (byteCells p)) (hS : ∀ q, S.lookup k = some q → q = p) (hup : up ≤ w.heap.size) (hb : b < lo ∨ up ≤ b) :
    ∃ w', (Instr.mapUpdate 104 (.map (some b)) (.int .i64 k) (.slice A p.length c)).run Try.prog w = .ok () w' ∧ MIs w' lo up b (n + 1) (jPut S k p) ∧ w.grownBy w' (some b) := by
  obtain ⟨D, h1, h2, h3, h4⟩ := h
  obtain ⟨w', hrun, h1', hg⟩ := h1.update keyed3 Try.underlying104 (val := .slice A p.length c) (d := .held (.slice A p.length c)) (ps := []) (by unfold maxLen; omega) (key3 hk) rfl
  have hkeep : ∀ {A : Option Addr} {n c : Nat} {xs : List Value}, Sl w lo up 1 A n c xs → Sl w' lo up 1 A n c xs := fun h => h.grown hg hup (fun g e => by cases e; exact hb)
  have hlk : ∀ k', (jPut S k p).lookup k' = if k' = k then some p else S.lookup k' := by
    intro k'
    unfold jPut
    cases hq : S.lookup k with
    | some q =>
      have := hS q hq
      subst this
      by_cases he : k' = k
      · subst he; simp [hq]
      · simp [he]
    | none =>
      simp only [Option.isSome_none, Bool.false_eq_true, if_false, lookup_snoc]
      by_cases he : k' = k
      · subst he; simp [hq]
      · simp only [he, if_false]
        cases S.lookup k' <;> rfl
  refine ⟨w', hrun, ⟨D.put (.int .i64 k) (.held (.slice A p.length c)), h1', ?_, fun k' => ?_, fun k' q hq => ?_⟩, hg⟩
  · rw [Maps.size_put (h1.tidy keyed3), h3 k, h2]
    unfold jPut
    split <;> simp
  · rw [hlk]
    by_cases he : k' = k
    · subst he
      rw [Maps.has_put_same h1.isMap (lit3 _)]
      simp
    · rw [Maps.has_put_other (by simpa using he), h3 k', if_neg he]
  · rw [hlk] at hq
    by_cases he : k' = k
    · subst he
      rw [if_pos rfl] at hq
      injection hq with hq
      subst hq
      exact ⟨A, c, fun z => Maps.atKey_put_same h1.isMap (lit3 _) _ z, hkeep hs⟩
    · rw [if_neg he] at hq
      obtain ⟨A2, c2, e2, s2⟩ := h4 k' q hq
      exact ⟨A2, c2, fun z => by rw [Maps.atKey_put_other (by simpa using he)]; exact e2 z, hkeep s2⟩

/-- What Join gathers, part for part: what is held, and how many there are said to be. -/
def jGo : Bool → List (List UInt8) → List (Int × List UInt8) → Int → Option (List (Int × List UInt8) × Int)
  | _, [], S, m => some (S, m)
  | f, b :: r, S, m => match rPart b with
    | none => none
    | some (k, n, q) => if f = false ∧ n ≠ m then none else if (∃ p, S.lookup k = some p ∧ p ≠ q) then none else jGo false r (jPut S k q) n
/-- Join. -/
def jCat (S : List (Int × List UInt8)) (m : Nat) : List UInt8 := (List.range m).flatMap fun (k : Nat) => (S.lookup (k : Int)).getD []
def jJoin (ps : List (List UInt8)) : List UInt8 × Int :=
  match jGo true ps [] 0 with
  | none => ([], 190)
  | some (S, m) => if m = 0 ∨ (S.length : Int) ≠ m then ([], 190) else (jCat S m.toNat, 0)
/-- Values that are rows of bytes, wherever they lie. -/
def Ps (w : World) (lo up : Nat) (vs : List Value) (ps : List (List UInt8)) : Prop :=
  vs.length = ps.length ∧ ∀ (i : Nat) (v : Value) (p : List UInt8), vs[i]? = some v → ps[i]? = some p → ∃ (A : Option Addr) (c : Nat), v = Value.slice A p.length c ∧ Sl w lo up 1 A p.length c (byteCells p)
theorem Ps.below {w w' : World} {lo up B : Nat} {vs : List Value} {ps : List (List UInt8)} (h : Ps w lo up vs ps) (hb : Below B w w') (hB : up ≤ B) : Ps w' lo up vs ps :=
  ⟨h.1, fun i v p h1 h2 => by
    obtain ⟨A, c, e, ho⟩ := h.2 i v p h1 h2
    exact ⟨A, c, e, ho.below hb hB⟩⟩
theorem Bs.ps {w : World} {base : Nat} {vs : List Value} {ps : List (List UInt8)} (h : Bs w base vs ps) : Ps w base w.heap.size vs ps :=
  ⟨h.1, fun i v p h1 h2 => by
    obtain ⟨A, c, e, ho⟩ := h.2 i v p h1 h2
    exact ⟨A, c, e, Sl.of_own ho⟩⟩
theorem vGet_nn (l : List UInt8) : 0 ≤ (vGet l).1 ∧ (vGet l).1 ≤ 4611686018427387903 := by
  rcases vGet_cases l with ⟨h0, h1, h2⟩ | h0
  · have hq := h0
    unfold vGet at hq ⊢
    cases l with
    | nil => simp at hq
    | cons b r =>
      simp only at hq ⊢
      split at hq
      · simp at hq
      · rename_i hlt
        rw [if_neg hlt]
        unfold vIs at hq ⊢
        split at hq
        · rename_i hs
          rw [if_pos hs]
          simp only
          have ht := vTell_pos b
          unfold vSize at hs
          split at hs
          · omega
          · omega
        · simp at hq
  · rw [h0]; simp
theorem rPart_bnd {b : List UInt8} {k m : Int} {q : List UInt8} (h : rPart b = some (k, m, q)) : inK k ∧ 1 ≤ m ∧ m ≤ 4096 ∧ k < m ∧ q.length ≤ b.length := by
  unfold rPart at h
  split at h
  · cases h
  · split at h
    · cases h
    · rename_i h2
      injection h with h
      injection h with h3 h
      injection h with h4 h5
      have g := vGet_nn b
      have g2 := vGet_nn (b.drop (vGet b).2.1)
      subst h3 h4 h5
      refine ⟨g, by omega, by omega, by omega, ?_⟩
      rw [List.length_drop]
      omega
end

/- The walk of diff.Join. -/
section
open Go.RowKit
set_option linter.unusedVariables false
set_option linter.unusedSimpArgs false
attribute [local go_sem ↓] Go.wp_at_zero Go.wp_at_succ

theorem cat_snoc (S : List (Int × List UInt8)) (k : Nat) : jCat S (k + 1) = jCat S k ++ (S.lookup (k : Int)).getD [] := by
  unfold jCat
  rw [List.range_succ, List.flatMap_append]
  simp
theorem lookup_mem {S : List (Int × List UInt8)} {k : Int} {p : List UInt8} (h : S.lookup k = some p) : (k, p) ∈ S := by
  induction S with
  | nil => cases h
  | cons x r ih =>
    obtain ⟨a, q⟩ := x
    by_cases e : k = a
    · subst e
      simp [List.lookup] at h
      subst h
      exact List.mem_cons_self ..
    · have : (k == a) = false := by simpa using e
      simp only [List.lookup, this] at h
      exact List.mem_cons_of_mem _ (ih h)
theorem cat_le {S : List (Int × List UInt8)} (h : ∀ p ∈ S, p.2.length ≤ 3000) : ∀ k, (jCat S k).length ≤ 3000 * k
  | 0 => by simp [jCat]
  | k + 1 => by
    rw [cat_snoc, List.length_append]
    have := cat_le h k
    have h2 : ((S.lookup (k : Int)).getD []).length ≤ 3000 := by
      cases hq : S.lookup (k : Int) with
      | none => simp
      | some p => exact h _ (lookup_mem hq)
    omega
theorem put_le {S : List (Int × List UInt8)} {k : Int} {q : List UInt8} (h : ∀ p ∈ S, p.2.length ≤ 3000) (hq : q.length ≤ 3000) : ∀ p ∈ jPut S k q, p.2.length ≤ 3000 := by
  unfold jPut
  split
  · exact h
  · intro p hp
    rw [List.mem_append, List.mem_singleton] at hp
    rcases hp with hp | rfl
    · exact h p hp
    · exact hq
theorem MIs.kept_own {w w' : World} {lo up b n : Nat} {S : List (Int × List UInt8)} {base n2 s : Nat} {e : TypeId} {v : Value} {xs : List Value} (h : MIs w lo up b n S) (ho : w.ownsRow base e s v n2 xs) (hg : w.grownBy w' v.ownBlock) (hup : up ≤ base) (hw : up ≤ w.heap.size) : MIs w' lo up b n S := by
  refine h.kept hg (fun e' => ?_) hw (fun g e' => .inr (Nat.le_trans hup (ho.lt g e').1))
  obtain ⟨D, ⟨es, clock, hb, _⟩, _⟩ := h
  rcases ho.2 with ⟨e1, _⟩ | ⟨g2, cap2, cur2, hv2, _, hh2, _⟩
  · rw [e1] at e'
    simp [Value.ownBlock] at e'
  · rw [hv2] at e'
    simp only [Value.ownBlock, Option.some.injEq] at e'
    subst e'
    rw [hb] at hh2
    cases hh2
theorem MIs.later {w w' : World} {lo up b n : Nat} {S : List (Int × List UInt8)} (h : MIs w lo up b n S) (hb : Below w.heap.size w w') (hw : up ≤ w.heap.size) : MIs w' lo up b n S :=
  h.kept (row := none) (grownBy_below hb (Nat.le_refl _)) (by simp) hw (fun g e => by cases e)
set_option maxHeartbeats 16000000 in
set_option maxRecDepth 100000 in
theorem diffjoin_any {lo up lo2 up2 : Nat} {A : Option Addr} {n c : Nat} {vs : List Value} {ps : List (List UInt8)} {w : World} (hv : Sl w lo2 up2 1 A n c vs) (hup2 : up2 ≤ w.heap.size) (hp : Ps w lo up vs ps) (hup : up ≤ w.heap.size) (hn : n ≤ 100000) (hl : ∀ p ∈ ps, p.length ≤ 3000) :
    Calls Try.prog 30 #[.slice A n c] w (RetBE w (jJoin ps).1 (jJoin ps).2) := by
  obtain ⟨j0, hj0, jz0, jz1, jz2⟩ := info_parts info5
  have hnv : n = vs.length := by have := hv.len; omega
  have hnp : n = ps.length := by rw [hnv, hp.1]
  have HV := Lib.hid hv
  have HP := Lib.hid hp
  have HL := Lib.hid hl
  have hmm := @run_makeMap Try.prog
  obtain ⟨J, hJ⟩ : ∃ J, J = jJoin ps := ⟨_, rfl⟩
  have HJ := Lib.hid hJ
  rw [← hJ]
  have Hnp := Lib.hid hnp
  have Hnv := Lib.hid hnv
  have hn' : (n : Int) ≤ 100000 := by omega
  clear hv hp hl hJ hnp hnv
  have m0 := MIs.made w lo up
  go_enter Try.func30, Try.ntmps30
  go_wp2_with fail
  go_loopg [5, 17] n (fun gh s5 s17 wr => ∃ (i nb : Nat) (S : List (Int × List UInt8)) (m : Int), gh = n - i ∧ i ≤ n ∧ s17 = .int .i64 i ∧ s5 = .int .i64 m ∧ 0 ≤ m ∧ m ≤ 4096 ∧ nb ≤ i ∧ MIs wr lo up w.heap.size nb S ∧ Below w.heap.size w wr ∧ Hid (jGo true ps [] 0 = jGo (decide (i = 0)) (ps.drop i) S m) ∧ Hid (∀ p ∈ S, p.2.length ≤ 3000))
  case atStart => exact ⟨0, 0, [], 0, rfl, Nat.zero_le _, rfl, rfl, Int.le_refl _, by omega, Nat.le_refl _, m0, (Below.refl _ _).alloc (Nat.le_refl _) _, Lib.hid rfl, Lib.hid (by intro p hp; cases hp)⟩
  case round =>
    clear m0 hmm
    obtain ⟨i, nb, S, m, hgh, hin, rfl, rfl, hm0, hm1, hnb, hM, bb, hgo, hS⟩ := hrel
    have HG := Lib.hid hgh
    clear hgh
    have hz := hM.lt
    by_cases h : i < n
    · have hiv : i < vs.length := by rw [← Hnv.out]; exact h
      have hip : i < ps.length := by rw [← Hnp.out]; exact h
      obtain ⟨b0, o0, rfl, hg1, hg2, hc⟩ := HV.out.at_ (by omega)
      have k1 : wr.cell? ⟨b0, o0 + i, none⟩ = some vs[i] := by
        rw [bb.cell (p := ⟨b0, o0 + i, none⟩) (by show b0 < _; omega), hc i hiv, List.getElem?_eq_getElem hiv]
      obtain ⟨A1, c1, ev, sl⟩ := HP.out.2 i vs[i] ps[i] (List.getElem?_eq_getElem hiv) (List.getElem?_eq_getElem hip)
      rw [ev] at k1
      have sl1 := sl.below bb hup
      have hlen : ps[i].length ≤ 3000 := HL.out _ (List.getElem_mem hip)
      have hgo2 := hgo.out
      rw [List.drop_eq_getElem_cons hip, jGo] at hgo2
      have HR := Lib.hid (read_any sl1 (by omega) (by omega : ps[i].length ≤ 1000000))
      generalize ps[i] = p at *
      have a1 := addr_add b0 o0 i
      have hi3 : (i : Int) < n := by omega
      clear ev sl hc hgo
      cases hrp : rPart p with
      | none =>
        rw [hrp] at hgo2 HR
        simp only at hgo2
        have hJe : J = ([], 190) := by rw [HJ.out]; unfold jJoin; rw [hgo2]
        clear hgo2 hrp
        subst hJe
        go_wp2_with fail
        refine HR.out.mono ?_
        rintro e w2 ⟨b2, rfl⟩
        have al := (Below.refl w2.heap.size w2).alloc (Nat.le_refl _) (.cells #[.int .i64 0, .int .i64 0, .slice none 0 0] 106)
        have hz2 := b2.size
        obtain ⟨v, hrun, -⟩ := ((hM.later b2 (by omega)).later al (by omega)).look_ok (k := 0) ⟨by omega, by omega⟩
        clear al
        go_wp2_with fail
        go_ret2
        exact ⟨none, 0, rfl, World.ownsRow_nil _ _ _ _, (bb.trans (b2.mono (by omega))).alloc (by omega) _⟩
      | some q =>
        obtain ⟨k, m2, q⟩ := q
        obtain ⟨hk, hm2, hm3, hkm, hql⟩ := rPart_bnd hrp
        rw [hrp] at hgo2 HR
        simp only at hgo2
        clear hrp
        have Hgo := Lib.hid hgo2
        have Hk := Lib.hid hk
        clear hgo2 hk
        go_wp2_with fail
        refine HR.out.mono ?_
        rintro e w2 ⟨b2, A2, c2, rfl, sl2⟩
        have hz2 := b2.size
        have al := (Below.refl w2.heap.size w2).alloc (Nat.le_refl _) (.cells #[.int .i64 k, .int .i64 m2, .slice A2 q.length c2] 106)
        have bl := Blk.new w2 106 #[.int .i64 k, .int .i64 m2, .slice A2 q.length c2] rfl
        have hM2 := (hM.later b2 (by omega)).later al (by omega)
        have sl3 := (sl2.below b2 (by omega)).below al (by omega)
        have bb3 := (bb.trans (b2.mono (by omega))).alloc (by omega) (.cells #[.int .i64 k, .int .i64 m2, .slice A2 q.length c2] 106)
        have hz3 : (w2.alloc (.cells #[.int .i64 k, .int .i64 m2, .slice A2 q.length c2] 106)).heap.size = w2.heap.size + 1 := by simp
        have hz4 : w2.heap.size + 1 ≤ (w2.alloc (.cells #[.int .i64 k, .int .i64 m2, .slice A2 q.length c2] 106)).heap.size := by omega
        clear hM sl1 HR al sl2 bb b2 hz3 k1
        obtain ⟨v, hrun, hvv⟩ := hM2.look_ok Hk.out
        have Hvv := Lib.hid hvv
        have ab1 := addr_add w2.heap.size 0 1
        have ab2 := addr_add w2.heap.size 0 2
        have HM2 := Lib.hid hM2
        have HSL3 := Lib.hid sl3
        have Hbb3 := Lib.hid bb3
        have Hbl := Lib.hid bl
        have Hz4 := Lib.hid hz4
        clear hvv hM2 sl3 bb3 bl hz4
        go_upto_region 8 with fail
        generalize w2.alloc (.cells #[.int .i64 k, .int .i64 m2, .slice A2 q.length c2] 106) = w3 at *
        have blr := Hbl.out.rules
        obtain ⟨kc, kf⟩ := blr
        clear hrun
        have HZ : Hid ((decide (i = 0) = false ∧ m2 ≠ m) ∨ ((decide (i = 0) = false → m2 = m) ∧ ((∃ p, S.lookup k = some p ∧ p ≠ q) ∨ ¬ (∃ p, S.lookup k = some p ∧ p ≠ q)))) := Lib.hid (by
          by_cases h1 : decide (i = 0) = false ∧ m2 ≠ m
          · exact .inl h1
          · exact .inr ⟨fun h2 => Classical.byContradiction fun h3 => h1 ⟨h2, h3⟩, Classical.em _⟩)
        obtain ⟨has, hhas⟩ : ∃ z, z = (S.lookup k).isSome := ⟨_, rfl⟩
        rw [← hhas]
        have Hhas := Lib.hid hhas
        clear hhas
        go_cut [55] (fun s55 wx => ∃ z : Bool, s55 = .bool z ∧ Hid (z = true ↔ ((decide (i = 0) = false ∧ m2 ≠ m) ∨ ∃ p, S.lookup k = some p ∧ p ≠ q)) ∧ w3 = wx)
        case first =>
          have hz := HZ.out
          rcases Nat.eq_zero_or_pos i with hi0 | hi0
          · have hi4 : ((0 : Int) < (i : Int)) = False := eq_false (by omega)
            have hi5 : decide ((0 : Int) < (i : Int)) = false := by simp; omega
            have hi6 : (0 < i) = False := eq_false (by omega)
            have hi7 : decide (0 < i) = false := by simp; omega
            have Hi0 := Lib.hid hi0
            clear hz hi0
            cases hlk : S.lookup k with
            | none =>
              obtain rfl : has = false := by rw [Hhas.out, hlk]; rfl
              have Hlk := Lib.hid hlk
              clear hlk
              go_wp2_with fail
              go_meet
              exact ⟨false, rfl, Lib.hid (by simp [Hi0.out, Hlk.out]), rfl⟩
            | some p' =>
              obtain ⟨A3, c3, rfl, sl5⟩ := Hvv.out p' hlk
              obtain rfl : has = true := by rw [Hhas.out, hlk]; rfl
              have HE := Lib.hid (equal_any sl5 HSL3.out)
              have Hlk := Lib.hid hlk
              clear hlk sl5
              go_wp2_with fail
              refine HE.out.mono ?_
              rintro e w4 ⟨rfl, rfl⟩
              have Hdq : Hid ((!decide (p' = q)) = true ↔ ∃ p, some p' = some p ∧ p ≠ q) := Lib.hid (by simp)
              generalize decide (p' = q) = dq at *
              go_wp2_with fail
              go_meet
              exact ⟨!dq, rfl, Lib.hid (by rw [Hdq.out]; simp [Hi0.out, Hlk.out]), rfl⟩
          · have hi4 : (0 : Int) < (i : Int) := by omega
            have hi5 : decide ((0 : Int) < (i : Int)) = true := by simp; omega
            have Hi0 : Hid (decide (i = 0) = false) := Lib.hid (by simp; omega)
            clear hz
            by_cases hmm : m2 = m
            · cases hlk : S.lookup k with
              | none =>
                obtain rfl : has = false := by rw [Hhas.out, hlk]; rfl
                have Hlk := Lib.hid hlk
                clear hlk
                have d1 : (m2 != m) = false := by simp [hmm]
                have Hmm := Lib.hid hmm
                clear hmm
                go_wp2_with fail
                go_meet
                exact ⟨false, rfl, Lib.hid (by simp [Hmm.out, Hlk.out]), rfl⟩
              | some p' =>
                obtain ⟨A3, c3, rfl, sl5⟩ := Hvv.out p' hlk
                obtain rfl : has = true := by rw [Hhas.out, hlk]; rfl
                have HE := Lib.hid (equal_any sl5 HSL3.out)
                have Hlk := Lib.hid hlk
                have d1 : (m2 != m) = false := by simp [hmm]
                have Hmm := Lib.hid hmm
                clear hlk sl5 hmm
                go_wp2_with fail
                refine HE.out.mono ?_
                rintro e w4 ⟨rfl, rfl⟩
                have Hdq : Hid ((!decide (p' = q)) = true ↔ ∃ p, some p' = some p ∧ p ≠ q) := Lib.hid (by simp)
                generalize decide (p' = q) = dq at *
                go_wp2_with fail
                go_meet
                exact ⟨!dq, rfl, Lib.hid (by rw [Hdq.out]; simp [Hmm.out, Hlk.out]), rfl⟩
            · have d1 : (m2 != m) = true := by simp [hmm]
              have Hmm := Lib.hid hmm
              clear hmm
              go_wp2_with fail
              go_meet
              exact ⟨true, rfl, Lib.hid (by simp [Hmm.out, Hi0.out]), rfl⟩
        case rest =>
          obtain ⟨z, rfl, hzz, rfl⟩ := hcut
          clear HZ Hvv
          cases z
          rotate_left
          · have hbad := hzz.out.1 rfl
            have hg2 := Hgo.out
            have hJe : J = ([], 190) := by
              rw [HJ.out]
              unfold jJoin
              rw [hg2]
              rcases hbad with h1 | h1
              · rw [if_pos h1]
              · by_cases h0 : decide (i = 0) = false ∧ m2 ≠ m
                · rw [if_pos h0]
                · rw [if_neg h0, if_pos h1]
            clear hbad hg2 hzz Hgo
            subst hJe
            go_wp2_with fail
            go_ret2
            exact ⟨none, 0, rfl, World.ownsRow_nil _ _ _ _, Hbb3.out⟩
          · have hgood : ¬ ((decide (i = 0) = false ∧ m2 ≠ m) ∨ ∃ p, S.lookup k = some p ∧ p ≠ q) := fun h => by have := hzz.out.2 h; cases this
            have hg2 := Hgo.out
            rw [if_neg (fun h => hgood (.inl h)), if_neg (fun h => hgood (.inr h))] at hg2
            have Hgo2 := Lib.hid hg2
            have hM3 : MIs w3.drew lo up w.heap.size nb S := HM2.out.kept (row := none) (grownBy_drew (grownBy_refl w3 none)) (by simp) (by have := Hz4.out; omega) (fun g e => by cases e)
            obtain ⟨w5, hupd, hM5, hg5⟩ := hM3.set Hk.out (by omega) HSL3.out.drew (fun p' hp' => Classical.byContradiction fun hne => hgood (.inr ⟨p', hp', hne⟩)) (by show up ≤ w3.heap.size; have := Hz4.out; omega) (.inr hup)
            have bl5 := (Hbl.out.drew).grown hg5 (by simp; omega)
            have blr5 := bl5.rules
            obtain ⟨kc5, kf5⟩ := blr5
            have HM5 := Lib.hid hM5
            have Hbb5 := Lib.hid (Hbb3.out.drew.grown hg5 (by show _ ≤ w3.heap.size; have := Hz4.out; omega) (fun k e => by cases e; exact Nat.le_refl _))
            clear hgood hg2 hzz Hgo hM3 hM5 hg5 bl5 HM2 HSL3 Hbb3
            go_upto_region 10 with fail
            go_region
            go_wp2_with fail
            go_roundg (n - (i + 1))
            case measure => have := HG.out; omega
            case rel => exact ⟨i + 1, nb + 1, _, m2, rfl, by omega, by go_num, rfl, by omega, hm3, by omega, HM5.out, Hbb5.out, Lib.hid Hgo2.out, Lib.hid (put_le hS.out (by omega))⟩
    · obtain rfl : i = n := by omega
      have hgo2 := hgo.out
      rw [List.drop_of_length_le (by rw [← Hnp.out]; exact Nat.le_refl _), jGo] at hgo2
      have hJ2 := HJ.out
      unfold jJoin at hJ2
      rw [hgo2] at hJ2
      simp only at hJ2
      clear hgo hgo2
      have hlen := fun (ty : TypeId) => hM.len ty
      by_cases hmz : m = 0
      · rw [if_pos (.inl hmz)] at hJ2
        subst hJ2
        subst hmz
        go_wp2_with fail
        go_ret2
        exact ⟨none, 0, rfl, World.ownsRow_nil _ _ _ _, bb⟩
      · have d1 : (m == 0) = false := by simpa using hmz
        by_cases hsz : (S.length : Int) = m
        rotate_left
        · rw [if_pos (.inr hsz)] at hJ2
          subst hJ2
          have d2 : ((S.length : Int) != m) = true := by simp [hsz]
          clear hsz hmz
          go_wp2_with fail
          go_ret2
          exact ⟨none, 0, rfl, World.ownsRow_nil _ _ _ _, bb⟩
        · rw [if_neg (by omega)] at hJ2
          subst hJ2
          have d2 : ((S.length : Int) != m) = false := by simp [hsz]
          obtain ⟨mn, rfl⟩ : ∃ q : Nat, m = q := ⟨m.toNat, by omega⟩
          have hmn : mn ≤ 4096 := by omega
          clear hsz hmz hm0 hm1
          rw [Int.toNat_natCast]
          go_wp2_with fail
          go_loopg [12, 73] mn (fun gh s12 s73 wr => ∃ (k : Nat) (A : Option Addr) (c : Nat), gh = mn - k ∧ k ≤ mn ∧ s73 = .int .i64 k ∧ s12 = .slice A (jCat S k).length c ∧ wr.ownsRow w.heap.size 5 1 (.slice A (jCat S k).length c) (jCat S k).length (byteCells (jCat S k)) ∧ MIs wr lo up w.heap.size nb S ∧ Below w.heap.size w wr)
          case atStart => exact ⟨0, none, 0, rfl, Nat.zero_le _, rfl, rfl, World.ownsRow_nil _ _ _ _, hM, bb⟩
          case round =>
            clear hM bb hlen d1 d2 hz
            obtain ⟨k, A2, c2, hgh, hk, rfl, rfl, hown, hM, bb⟩ := hrel
            have HG2 := Lib.hid hgh
            clear hgh
            have hz := hM.lt
            by_cases h2 : k < mn
            · obtain ⟨A3, c3, hrun, sl3⟩ := hM.look (k := (k : Int)) ⟨by omega, by omega⟩
              have hcl := cat_le hS.out k
              have hcl2 := cat_le hS.out (k + 1)
              have Hcs := Lib.hid (cat_snoc S k)
              have Hcl : Hid ((jCat S k).length + ((S.lookup (k : Int)).getD []).length = (jCat S (k + 1)).length) := Lib.hid (by rw [cat_snoc, List.length_append])
              have HM := Lib.hid hM
              have Hbb := Lib.hid bb
              clear hM bb
              go_wp2_with (at_builtin; refine wpList_append_sl _ rfl (.tmp 76) (.tmp 79) 23 rfl w.heap.size 5 j0 _ 1 1 Try.underlying23 hj0 jz0 jz1 jz2 rfl (by omega) (.slice A2 (jCat S k).length c2) (jCat S k).length (byteCells (jCat S k)) rfl hown lo up A3 _ c3 (byteCells ((S.lookup (k : Int)).getD [])) rfl sl3 (byteCells_one _) (jCat S (k + 1)).length Hcl.out _ rfl (by unfold maxLen; omega) (by omega) (by omega) ?_; intro A6 c6 w6 hown6 hg6; have Hown6 := Lib.hid hown6; have Hg6 := Lib.hid hg6; clear hown6 hg6)
              go_roundg (mn - (k + 1))
              case measure => have := HG2.out; omega
              case rel =>
                refine ⟨k + 1, A6, c6, rfl, by omega, by go_num, rfl, ?_, HM.out.kept_own hown Hg6.out hup (by omega), Hbb.out.grown Hg6.out (by omega) (fun g e => (hown.lt g e).1)⟩
                have := Hown6.out
                rw [← byteCells_append, ← Hcs.out] at this
                exact this
            · obtain rfl : k = mn := by omega
              go_wp2_with fail
              go_ret2
              exact ⟨A2, c2, rfl, hown, bb⟩
end

/- Plain laws of parts: those of one row of bytes, brought together, are it, if all are there; else none. -/
section
open Go.RowKit
set_option linter.unusedVariables false
set_option linter.unusedSimpArgs false

def cChunk (l : List UInt8) (s k : Nat) : List UInt8 := (l.drop (k * s)).take s
theorem rPart_cPart {l : List UInt8} {s m k : Nat} (hm : m ≤ 4096) (hk : k < m) : rPart (cPart l s m k) = some ((k : Int), (m : Int), cChunk l s k) := by
  have hk1 : vSize (k : Int) ≠ 0 := vSize_ne (by omega) (by omega)
  have hm1 : vSize (m : Int) ≠ 0 := vSize_ne (by omega) (by omega)
  have e : cPart l s m k = vBytes (k : Int) ++ (vBytes (m : Int) ++ cChunk l s k) := by
    unfold cPart vCat cChunk
    simp
  rw [e]
  have g1 := vGet_vBytes hk1 (vBytes (m : Int) ++ cChunk l s k)
  have d1 : (vBytes (k : Int) ++ (vBytes (m : Int) ++ cChunk l s k)).drop (vSize (k : Int)) = vBytes (m : Int) ++ cChunk l s k := by
    rw [← vBytes_length]; exact List.drop_left
  have g2 := vGet_vBytes hm1 (cChunk l s k)
  have d2 : (vBytes (k : Int) ++ (vBytes (m : Int) ++ cChunk l s k)).drop (vSize (k : Int) + vSize (m : Int)) = cChunk l s k := by
    rw [← List.drop_drop, d1, ← vBytes_length]; exact List.drop_left
  unfold rPart
  rw [g1]
  simp only
  rw [d1, g2]
  simp only
  rw [d2, if_neg (by decide), if_neg (by omega)]
/-- How many places of so many are held. -/
def held (S : List (Int × List UInt8)) (m : Nat) : Nat := ((List.range m).filter fun (k : Nat) => (S.lookup (k : Int)).isSome).length
theorem count_more (p : Nat → Bool) (k : Nat) : ∀ m, p k = false → ((List.range m).filter fun j => p j || j == k).length = ((List.range m).filter p).length + (if k < m then 1 else 0)
  | 0, h => by simp
  | m + 1, h => by
    rw [List.range_succ, List.filter_append, List.filter_append, List.length_append, List.length_append, count_more p k m h]
    by_cases hk : k = m
    · subst hk
      simp [h]
    · have hb : (m == k) = false := by simp; omega
      cases hp : p m
      · simp only [List.filter_cons, hp, hb, Bool.or_false, List.filter_nil]
        split <;> split <;> simp <;> omega
      · simp only [List.filter_cons, hp, hb, Bool.or_false, List.filter_nil]
        split <;> split <;> simp <;> omega
theorem lookup_put (S : List (Int × List UInt8)) (k : Int) (p : List UInt8) (h : ∀ q, S.lookup k = some q → q = p) (k' : Int) : (jPut S k p).lookup k' = if k' = k then some p else S.lookup k' := by
  unfold jPut
  cases hq : S.lookup k with
  | some q =>
    have := h q hq
    subst this
    by_cases he : k' = k
    · subst he; simp [hq]
    · simp [he]
  | none =>
    simp only [Option.isSome_none, Bool.false_eq_true, if_false, lookup_snoc]
    by_cases he : k' = k
    · subst he; simp [hq]
    · simp only [he, if_false]
      cases S.lookup k' <;> rfl
/-- What is held is parts of l. -/
structure JOk (l : List UInt8) (s m : Nat) (S : List (Int × List UInt8)) : Prop where
  is : ∀ (k : Nat) q, S.lookup (k : Int) = some q → q = cChunk l s k
  many : S.length = held S m
theorem JOk.put {l : List UInt8} {s m : Nat} {S : List (Int × List UInt8)} (h : JOk l s m S) {k : Nat} (hk : k < m) : JOk l s m (jPut S (k : Int) (cChunk l s k)) ∧ (∀ j : Nat, ((jPut S (k : Int) (cChunk l s k)).lookup (j : Int)).isSome = ((S.lookup (j : Int)).isSome || j == k)) := by
  have hl := lookup_put S (k : Int) (cChunk l s k) (fun q hq => h.is k q hq)
  have hs : ∀ j : Nat, ((jPut S (k : Int) (cChunk l s k)).lookup (j : Int)).isSome = ((S.lookup (j : Int)).isSome || j == k) := by
    intro j
    rw [hl]
    by_cases e : j = k
    · subst e; simp
    · have e2 : ¬ ((j : Int) = (k : Int)) := by omega
      have e3 : (j == k) = false := by simp [e]
      rw [if_neg e2, e3, Bool.or_false]
  refine ⟨⟨fun j q hq => ?_, ?_⟩, hs⟩
  · rw [hl] at hq
    by_cases e : j = k
    · subst e
      rw [if_pos rfl] at hq
      injection hq with hq
      exact hq.symm
    · rw [if_neg (by omega)] at hq
      exact h.is j q hq
  · unfold held
    rw [List.filter_congr (fun j _ => hs j)]
    cases hp : (S.lookup (k : Int)).isSome
    · rw [count_more _ k m hp, if_pos hk]
      unfold jPut
      rw [hp]
      simp only [Bool.false_eq_true, if_false, List.length_append, List.length_cons, List.length_nil]
      have := h.many
      unfold held at this
      omega
    · unfold jPut
      rw [hp]
      simp only [if_true]
      rw [h.many]
      unfold held
      congr 1
      refine List.filter_congr (fun j _ => ?_)
      by_cases e : j = k
      · subst e; simp [hp]
      · have e3 : (j == k) = false := by simp [e]
        rw [e3, Bool.or_false]
theorem jGo_parts {l : List UInt8} {s m : Nat} (hm : m ≤ 4096) : ∀ (ks : List Nat) (f : Bool) (S : List (Int × List UInt8)) (m0 : Int), (∀ k ∈ ks, k < m) → JOk l s m S → (f = false → m0 = m) →
    ∃ S', jGo f (ks.map (cPart l s m)) S m0 = some (S', if ks = [] then m0 else m) ∧ JOk l s m S' ∧ ∀ j : Nat, (S'.lookup (j : Int)).isSome = ((S.lookup (j : Int)).isSome || decide (j ∈ ks))
  | [], f, S, m0, hk, hS, hf => ⟨S, by simp [jGo], hS, fun j => by simp⟩
  | k :: ks, f, S, m0, hk, hS, hf => by
    have hk1 := hk k (List.mem_cons_self ..)
    obtain ⟨h1, h2⟩ := hS.put hk1
    obtain ⟨S', e, h3, h4⟩ := jGo_parts hm ks false (jPut S (k : Int) (cChunk l s k)) (m : Int) (fun j hj => hk j (List.mem_cons_of_mem _ hj)) h1 (fun _ => rfl)
    refine ⟨S', ?_, h3, fun j => ?_⟩
    · rw [List.map_cons, jGo, rPart_cPart hm hk1]
      simp only
      rw [if_neg (fun ⟨a, b⟩ => b (hf a).symm), if_neg (fun ⟨p, a, b⟩ => b (hS.is k p a)), e]
      simp
    · rw [h4, h2]
      by_cases e : j = k
      · subst e; simp
      · have e3 : (j == k) = false := by simp [e]
        simp [e3, e]
theorem held_all {S : List (Int × List UInt8)} {m : Nat} (h : ∀ j : Nat, j < m → (S.lookup (j : Int)).isSome = true) : held S m = m := by
  unfold held
  rw [List.filter_eq_self.2 (fun j hj => h j (List.mem_range.1 hj)), List.length_range]
theorem held_lt {S : List (Int × List UInt8)} {m g : Nat} (hg : g < m) (h : (S.lookup (g : Int)).isSome = false) : held S m < m := by
  have h1 := count_more (fun (k : Nat) => (S.lookup (k : Int)).isSome) g m h
  rw [if_pos hg] at h1
  have h2 := List.length_filter_le (fun (j : Nat) => (S.lookup (j : Int)).isSome || j == g) (List.range m)
  rw [List.length_range] at h2
  unfold held
  omega
theorem chunks_all (l : List UInt8) (s : Nat) : ∀ m, (List.range m).flatMap (fun k => cChunk l s k) = l.take (m * s)
  | 0 => by simp
  | m + 1 => by
    rw [List.range_succ, List.flatMap_append, chunks_all l s m]
    simp only [List.flatMap_cons, List.flatMap_nil, List.append_nil, cChunk]
    rw [Nat.add_mul, Nat.one_mul, List.take_add]
theorem JOk.nil (l : List UInt8) (s m : Nat) : JOk l s m [] := by
  refine ⟨fun k q h => (by cases h), ?_⟩
  unfold held
  rw [List.filter_eq_nil_iff.2 (fun j _ => by simp [List.lookup])]
  rfl
theorem flat_congr {f g : Nat → List UInt8} : ∀ (L : List Nat), (∀ k ∈ L, f k = g k) → L.flatMap f = L.flatMap g
  | [], _ => rfl
  | k :: L, h => by
    rw [List.flatMap_cons, List.flatMap_cons, h k (List.mem_cons_self ..), flat_congr L (fun j hj => h j (List.mem_cons_of_mem _ hj))]
/-- All are there, in whatever order, however often. -/
theorem join_all {l : List UInt8} {s m : Nat} (hm : m ≤ 4096) (hm1 : 1 ≤ m) (hl : l.length ≤ m * s) {ks : List Nat} (hk : ∀ k ∈ ks, k < m) (hall : ∀ k, k < m → k ∈ ks) : jJoin (ks.map (cPart l s m)) = (l, 0) := by
  obtain ⟨S, e, h3, h4⟩ := jGo_parts hm ks true [] 0 hk (JOk.nil l s m) (fun h => by cases h)
  have hne : ks ≠ [] := fun h => by have := hall 0 (by omega); rw [h] at this; cases this
  rw [if_neg hne] at e
  unfold jJoin
  rw [e]
  simp only
  have hs : ∀ j : Nat, j < m → (S.lookup (j : Int)).isSome = true := fun j hj => by rw [h4]; simp [hall j hj]
  have hlen : S.length = m := h3.many.trans (held_all hs)
  rw [if_neg (by omega), Int.toNat_natCast]
  congr 1
  unfold jCat
  have e2 : ((List.range m).flatMap fun (k : Nat) => (S.lookup (k : Int)).getD []) = (List.range m).flatMap (fun k => cChunk l s k) := by
    refine flat_congr _ (fun k hk => ?_)
    have hk' := hs k (List.mem_range.1 hk)
    cases hq : S.lookup (k : Int) with
    | none => rw [hq] at hk'; cases hk'
    | some q => simp [hq, h3.is k q hq]
  rw [e2, chunks_all, List.take_of_length_le hl]
/-- One is not there. -/
theorem join_gone {l : List UInt8} {s m g : Nat} (hm : m ≤ 4096) (hg : g < m) {ks : List Nat} (hk : ∀ k ∈ ks, k < m) (hno : g ∉ ks) : jJoin (ks.map (cPart l s m)) = ([], 190) := by
  obtain ⟨S, e, h3, h4⟩ := jGo_parts hm ks true [] 0 hk (JOk.nil l s m) (fun h => by cases h)
  unfold jJoin
  rw [e]
  simp only
  by_cases hne : ks = []
  · rw [if_pos hne, if_pos (.inl rfl)]
  · rw [if_neg hne]
    have : held S m < m := held_lt hg (by rw [h4]; simp [hno])
    have hlen := h3.many
    rw [if_pos (.inr (by omega))]
theorem many_ge {n s : Nat} (hs : 1 ≤ s) : n ≤ cMany n s * s := by
  unfold cMany
  have h1 : n + s - 1 < ((n + s - 1) / s + 1) * s := by
    have := Nat.lt_mul_div_succ (n + s - 1) (by omega : 0 < s)
    rwa [Nat.mul_comm] at this
  rw [Nat.add_mul, Nat.one_mul] at h1
  have h2 : (n + s - 1) / s * s ≤ max ((n + s - 1) / s) 1 * s := Nat.mul_le_mul_right _ (Nat.le_max_left _ _)
  omega
theorem many_le {n s : Nat} (hs : 12 ≤ s) (hn : n ≤ 500) : cMany n s ≤ 42 := by
  unfold cMany
  have : (n + s - 1) / s ≤ 42 := by
    have h1 : (n + s - 1) / s < 43 := by
      rw [Nat.div_lt_iff_lt_mul (by omega)]
      omega
    omega
  omega
theorem cPart_len {l : List UInt8} {s m k : Nat} (hm : m < 64) (hk : k < 64) : (cPart l s m k).length ≤ 2 + s := by
  have h1 : (vBytes (k : Int)).length = 1 := by
    rw [vBytes_length]
    unfold vSize
    rw [if_neg (by omega), if_pos (by omega)]
  have h2 : (vBytes (m : Int)).length = 1 := by
    rw [vBytes_length]
    unfold vSize
    rw [if_neg (by omega), if_pos (by omega)]
  unfold cPart vCat
  simp only [List.flatMap_cons, List.flatMap_nil, List.append_nil, List.length_append, h1, h2, List.length_take]
  omega
end
end Go.Proofs.Ytfeeincglijmjaa
