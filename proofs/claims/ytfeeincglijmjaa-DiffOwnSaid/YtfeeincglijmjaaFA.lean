/- The walk of diff.read. -/
import Derived.Test.YtfeeincglijmjaaVK
import Derived.Test.YtfeeincglijmjaaEQ
namespace Go.Proofs.Ytfeeincglijmjaa
open Go.RowKit
set_option linter.unusedVariables false
set_option linter.unusedSimpArgs false
attribute [local go_sem ↓] Go.wp_at_zero Go.wp_at_succ

/-- A part, taken apart: its place, how many there are, its bytes. -/
def rPart (b : List UInt8) : Option (Int × Int × List UInt8) :=
  if (vGet b).2.2 ≠ 0 then none else
  if (vGet (b.drop (vGet b).2.1)).2.2 ≠ 0 ∨ 4096 < (vGet (b.drop (vGet b).2.1)).1 ∨ (vGet (b.drop (vGet b).2.1)).1 ≤ (vGet b).1 then none else
  some ((vGet b).1, (vGet (b.drop (vGet b).2.1)).1, b.drop ((vGet b).2.1 + (vGet (b.drop (vGet b).2.1)).2.1))
/-- What read hands back. -/
def RetPt (w : World) (lo up : Nat) (q : Option (Int × Int × List UInt8)) (e : Ending) (w' : World) : Prop :=
  Below w.heap.size w w' ∧ match q with
    | none => e = .returned (.tuple #[.agg #[.int .i64 0, .int .i64 0, .slice none 0 0], .bool false])
    | some (k, m, r) => ∃ A c, e = .returned (.tuple #[.agg #[.int .i64 k, .int .i64 m, .slice A r.length c], .bool true]) ∧ Sl w lo up 1 A r.length c (byteCells r)

set_option maxHeartbeats 4000000 in
set_option maxRecDepth 100000 in
theorem read_any {lo up : Nat} {A : Option Addr} {n c : Nat} {l : List UInt8} {w : World} (hr : Sl w lo up 1 A n c (byteCells l)) (hup : up ≤ w.heap.size) (hn : n ≤ 1000000) :
    Calls Try.prog 71 #[.slice A n c] w (RetPt w lo up (rPart l)) := by
  obtain ⟨j0, hj0, jz0, jz1, jz2⟩ := info_parts info5
  have hl0 : n = l.length := by have := hr.len; rw [byteCells_length] at this; omega
  subst hl0
  have bb := (Below.refl w.heap.size w).alloc (Nat.le_refl _) (.cells #[.int .i64 0, .int .i64 0, .slice none 0 0] 106)
  have bk := Blk.new w 106 #[.int .i64 0, .int .i64 0, .slice none 0 0] rfl
  have ⟨kc, kf⟩ := bk.rules
  have a1 := addr_add w.heap.size 0 1
  have a2 := addr_add w.heap.size 0 2
  have HG := Lib.hid (fun n c A l (h : Sl w lo up 1 A n c (byteCells l)) => get_any (h.alloc hup (.cells #[.int .i64 0, .int .i64 0, .slice none 0 0] 106)))
  unfold rPart
  rcases vGet_cases l with ⟨g0, g1, g2⟩ | g0
  rotate_left
  · rw [if_pos (by rw [g0]; decide)]
    go_enter Try.func71, Try.ntmps71
    go_wp2_with fail
    refine (HG.out _ _ _ _ hr).mono ?_
    rintro e w2 ⟨rfl, rfl⟩
    rw [g0]
    go_wp2_with fail
    refine bodyPost_ret (v := .tuple #[.agg #[.int .i64 0, .int .i64 0, .slice none 0 0], .bool false]) (by simp [results, Try.results71, go_sem]) rfl ⟨?_, rfl⟩
    exact bb
  · rw [if_neg (by rw [g0]; decide)]
    obtain ⟨A3, hcut, hs3⟩ := cut_l Try.underlying23 hj0 jz1 hr (vGet l).2.1 (l.length - (vGet l).2.1) ((vGet l).2.1 : Int) rfl (by omega)
    rw [Nat.mul_one, byteCells_drop] at hs3
    have HG1 := HG.out _ _ _ _ hr
    have HG2 := HG.out _ _ _ _ hs3
    have hcut2 : ∀ (s : Nat), s ≤ l.length - (vGet l).2.1 → ∃ A', (∀ w', (Instr.slice 23 (.slice A l.length c) (some (.int .i64 (((vGet l).2.1 : Int) + (s : Int)))) none none).run Try.prog w' = .ok (.slice A' (l.length - ((vGet l).2.1 + s)) (c - ((vGet l).2.1 + s))) w') ∧ Sl w lo up 1 A' (l.length - ((vGet l).2.1 + s)) (c - ((vGet l).2.1 + s)) (byteCells (l.drop ((vGet l).2.1 + s))) := by
      intro s hs
      obtain ⟨A4, h4, s4⟩ := cut_l Try.underlying23 hj0 jz1 hr ((vGet l).2.1 + s) (l.length - ((vGet l).2.1 + s)) (((vGet l).2.1 : Int) + (s : Int)) (by omega) (by omega)
      rw [Nat.mul_one, byteCells_drop] at s4
      exact ⟨A4, h4, s4⟩
    have hl3 : (l.drop (vGet l).2.1).length = l.length - (vGet l).2.1 := List.length_drop
    have hc2 := vGet_cases (l.drop (vGet l).2.1)
    rw [hl3] at hc2
    obtain ⟨⟨x, s, e0⟩, hq⟩ : ∃ q, q = vGet l := ⟨_, rfl⟩
    rw [← hq] at HG1 HG2 hcut hcut2 hc2 g0 g1 g2 ⊢
    simp only at HG1 HG2 hcut hcut2 hc2 g0 g1 g2 ⊢
    subst g0
    clear hq hl3 hs3
    obtain ⟨⟨y, s2, e2⟩, hq⟩ : ∃ q, q = vGet (l.drop s) := ⟨_, rfl⟩
    rw [← hq] at HG2 hc2 ⊢
    simp only at HG2 hc2 ⊢
    clear hq
    have HG1 := Lib.hid HG1
    have HG2 := Lib.hid HG2
    have hsb : (s : Int) ≤ l.length := by omega
    have hsb2 : (s : Int) ≤ 1000000 := by omega
    rcases hc2 with ⟨rfl, t1, t2⟩ | hc2
    rotate_left
    · injection hc2 with e1 e2'
      injection e2' with e2' e3'
      subst e1 e2' e3'
      rw [if_pos (.inl (by decide))]
      go_enter Try.func71, Try.ntmps71
      go_wp2_with fail
      refine HG1.out.mono ?_
      rintro e w2 ⟨rfl, rfl⟩
      go_wp2_with fail
      refine HG2.out.mono ?_
      rintro e w2 ⟨rfl, rfl⟩
      go_wp2_with fail
      refine bodyPost_ret (v := .tuple #[.agg #[.int .i64 0, .int .i64 0, .slice none 0 0], .bool false]) (by simp [results, Try.results71, go_sem]) rfl ⟨?_, rfl⟩
      exact bb
    · obtain ⟨A4, hcut4, s4⟩ := hcut2 s2 t2
      clear hcut2
      have hsb3 : (s2 : Int) ≤ 1000000 := by omega
      have hsum : (s : Int) + (s2 : Int) ≤ l.length := by omega
      by_cases hm : 4096 < y
      · rw [if_pos (.inr (.inl hm))]
        go_enter Try.func71, Try.ntmps71
        go_wp2_with fail
        refine HG1.out.mono ?_
        rintro e w2 ⟨rfl, rfl⟩
        go_wp2_with fail
        refine HG2.out.mono ?_
        rintro e w2 ⟨rfl, rfl⟩
        go_wp2_with fail
        refine bodyPost_ret (v := .tuple #[.agg #[.int .i64 0, .int .i64 0, .slice none 0 0], .bool false]) (by simp [results, Try.results71, go_sem]) rfl ⟨?_, rfl⟩
        exact bb
      · by_cases hat : y ≤ x
        · rw [if_pos (.inr (.inr hat))]
          go_enter Try.func71, Try.ntmps71
          go_wp2_with fail
          refine HG1.out.mono ?_
          rintro e w2 ⟨rfl, rfl⟩
          go_wp2_with fail
          refine HG2.out.mono ?_
          rintro e w2 ⟨rfl, rfl⟩
          go_wp2_with fail
          refine bodyPost_ret (v := .tuple #[.agg #[.int .i64 0, .int .i64 0, .slice none 0 0], .bool false]) (by simp [results, Try.results71, go_sem]) rfl ⟨?_, rfl⟩
          exact bb
        · rw [if_neg (by omega)]
          have hld : (l.drop (s + s2)).length = l.length - (s + s2) := List.length_drop
          have HLD := Lib.hid hld
          clear hld
          go_enter Try.func71, Try.ntmps71
          go_wp2_with fail
          refine HG1.out.mono ?_
          rintro e w2 ⟨rfl, rfl⟩
          go_wp2_with fail
          refine HG2.out.mono ?_
          rintro e w2 ⟨rfl, rfl⟩
          go_wp2_with fail
          refine bodyPost_ret (v := .tuple #[.agg #[.int .i64 x, .int .i64 y, .slice A4 (l.length - (s + s2)) (c - (s + s2))], .bool true]) (by simp [results, Try.results71, go_sem]) rfl ⟨?_, A4, c - (s + s2), by rw [HLD.out], by rw [HLD.out]; exact s4⟩
          exact (Below.refl w.heap.size w).alloc (Nat.le_refl _) _
end Go.Proofs.Ytfeeincglijmjaa
