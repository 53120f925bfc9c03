/- KeysTakes: for every input the law returns true, and each argument reads afterwards as it read before. No condition. -/
import Derived.Test.YtdiphckbnendlaaRows
import Derived.Test.YtdiphckbnendlaaI
import Derived.Test.YtdiphckbnendlaaLift
namespace Go.Proofs.Ytdiphckbnendlaa
open Go.ChangeShapes Go.WideShapes Go.ChangeAt Go.RowKit Go.Joins
set_option linter.unusedVariables false
attribute [local go_sem ↓] Go.wp_at_zero Go.wp_at_succ

theorem takes_long {t g : Int} {A : Option Addr} {n c : Nat} {w : World} (hn : 300 < n) :
    Calls Try.prog 4 #[.int .i64 t, .int .i64 g, .slice A n c] w fun e w' => e = .returned (.bool true) ∧ Below w.heap.size w w' := by
  go_enter Try.func4, Try.ntmps4
  go_wp2_with fail
  refine (awake_any _).mono ?_
  rintro e w1 ⟨rfl, hb1⟩
  go_wp2
  go_ret
  exact ⟨rfl, hb1⟩

theorem takes_short {t g : Int} {A : Option Addr} {n c : Nat} {l : List UInt8} {w : World} (hr : Sl w 0 w.heap.size 1 A n c (byteCells l)) (hn : n ≤ 300) :
    Calls Try.prog 4 #[.int .i64 t, .int .i64 g, .slice A n c] w fun e w' => e = .returned (.bool true) ∧ Below w.heap.size w w' := by
  have T1 := fun W lo up h1 h2 => take_any (lo := lo) (up := up) (t := t) (g := g) (A := A) (n := n) (c := c) (l := l) (w := W) h1 h2 (by omega)
  have T2 := fun W lo up h1 h2 => rtake_any (lo := lo) (up := up) (t := t) (g := g) (A := A) (n := n) (c := c) (l := l) (w := W) h1 h2 (by omega)
  generalize (kTake t g l).1 = xn at *
  generalize (kTake t g l).2 = xl at *
  have HT1 := Lib.hid T1; clear T1
  have HT2 := Lib.hid T2; clear T2
  go_enter Try.func4, Try.ntmps4
  go_wp2_with fail
  refine (awake_any _).mono ?_
  rintro e w1 ⟨rfl, bb⟩
  go_wp2_with fail
  refine (HT1.out _ _ _ (hr.below bb (Nat.le_refl _)) bb.size).mono ?_
  rintro e w2 ⟨X, cx, rfl, hx, hb2⟩
  have bb2 := bb.trans (hb2.mono bb.size)
  go_wp2_with fail
  refine (HT2.out _ _ _ (hr.below bb2 (Nat.le_refl _)) bb2.size).mono ?_
  rintro e w3 ⟨Y, cy, rfl, hy, hb3⟩
  have bb3 := bb2.trans (hb3.mono bb2.size)
  have q1 := run_string_of (dst := 9) ((Sl.of_own hx).below hb3 (Nat.le_refl _)) Try.underlying22 Try.underlying5 Try.underlying9
  have q2 := run_string_of (dst := 9) (Sl.of_own hy) Try.underlying22 Try.underlying5 Try.underlying9
  go_wp2
  go_ret
  exact ⟨rfl, bb3⟩

theorem takes_own : ownKnob Try.prog.godebug = none := by kernel_rfl
theorem takes_laidOut : laidOutB Try.prog = true := by kernel_rfl
theorem takes_cells5 : Try.prog.cellsOf 5 = 1 := by kernel_rfl

set_option maxRecDepth 100000 in
theorem takes_lifted (os : Os) (started : os.Started) (H : Type) (enc : TypeId × Value → H) :
    ReturnsInHanded {} Try.checked os 4 .any (Rows.keysTakesSpec.pre6 enc Try.prog Try.f4 Rows.keysTakesRow.domain false) (Rows.keysTakesSpec.post enc Try.prog Try.f4 false true false false) := by
  refine returnsInHanded_of_change (C := Try.checked) takes_own started (by kernel_rfl) Try.func4
    (ChangeSpec.witness6 (enc := enc) (C := Try.checked) false ⟨#[], #[.int .i64 0, .int .i64 0, .slice none 0 0], []⟩ 8 (by kernel_rfl) (by kernel_rfl) (by kernel_rfl) (by kernel_rfl)) ?_
  intro W base args ds gs before hval0 hW hcnd _
  have hval : ∀ (j : Nat) t v, Try.f4.params[j]? = some t → args[j]? = some v → Value.okWide Try.prog W .any base t v := hval0
  have hW' := hW
  obtain ⟨p, q, hA0, hV, rfl, hfz, hnd⟩ := hW
  have hA : DataW.TrodAll enc Try.prog W 0 (fun _ => true) true Try.f4.params.toList args.toList ds p := hA0
  rw [Try.params4] at hA hval
  obtain ⟨v0, vs0, d0, ds0, p0, q0, hargs, rfl, rfl, h0, r0⟩ := trodAll_cons hA
  obtain ⟨v1, vs1, d1, ds1, p1, q1, rfl, rfl, rfl, h1, r1⟩ := trodAll_cons r0
  obtain ⟨v2, vs2, d2, ds2, p2, q2, rfl, rfl, rfl, h2, r2⟩ := trodAll_cons r1
  obtain ⟨rfl, rfl, rfl⟩ := trodAll_nil r2
  obtain rfl : args = #[v0, v1, v2] := by cases args; simp_all
  obtain ⟨rfl, rfl⟩ := trodVars_none hV
  have k2 := h2
  have lt2 : ∀ x ∈ p2, x.block < W.heap.size := by obtain ⟨m, hm⟩ := k2; exact DataW.trod_lt m _ _ _ hm
  obtain ⟨t, rfl, rfl, rfl, wt⟩ := open_int Try.underlying3 (hval 0 3 v0 rfl rfl) h0
  obtain ⟨g, rfl, rfl, rfl, wg⟩ := open_int Try.underlying3 (hval 1 3 v1 rfl rfl) h1
  obtain ⟨A, n, c, l, rfl, hs, hcap⟩ := sl_of_Trod Try.underlying22 Try.underlying5 takes_cells5 (hval 2 22 v2 rfl rfl) h2
  clear hA0 hval0
  have walk : Calls Try.prog 4 #[.int .i64 t, .int .i64 g, .slice A n c] W fun e w' => e = .returned (.bool true) ∧ Below W.heap.size W w' := by
    by_cases h : n ≤ 300
    · exact takes_short hs h
    · exact takes_long (by omega)
  refine walk.mono fun e W' ⟨he, bel⟩ => ?_
  subst he
  exact ⟨_, rfl, _, _, _, [], _, [], hW', trodAll_mk1 (shut_bool Try.underlying4 _), (trodAll_cons_mk (shut_int Try.underlying3 wt) (trodAll_cons_mk (shut_int Try.underlying3 wg) (trodAll_cons_mk (Below.trod takes_laidOut (by kernel_rfl) (of_decide_eq_true (by kernel_rfl)) k2 bel lt2) trodAll_mk0))), rfl, bel.frame _, fun h => by cases h⟩

theorem takes_over : Rows.keysTakesRow.holds Try.pinned (OpenSpec.ofChange Rows.keysTakesSpec) :=
  OpenClaim.holds_of_wide 4 Try.f4 rfl rfl rfl rfl rfl rfl rfl ⟨rfl, rfl, rfl, rfl, rfl⟩ rfl rfl rfl rfl rfl (by kernel_rfl) Try.func4 (by kernel_rfl)
    (of_decide_eq_true (by kernel_rfl)) (by unfold Func.isWrapper; first | (rw [if_pos (by decide +kernel)]; kernel_rfl) | (rw [if_neg (by decide +kernel)]; exact ⟨rfl, rfl⟩))
    (fun os started H enc _ => takes_lifted os started H enc)

/-- For every input KeysTakes returns true, and each argument reads afterwards as before. -/
theorem keysTakes_holds : Rows.KeysTakesSaid := takes_over
#print axioms keysTakes_holds
end Go.Proofs.Ytdiphckbnendlaa
