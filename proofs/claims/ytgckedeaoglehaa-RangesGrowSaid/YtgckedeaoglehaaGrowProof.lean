/- RangesGrow: for every input the law returns true, and each argument reads afterwards as it read before. No condition. -/
import Derived.Test.YtgckedeaoglehaaRows
import Derived.Test.YtgckedeaoglehaaGrow
import Derived.Test.YtgckedeaoglehaaLift
namespace Go.Proofs.Ytgckedeaoglehaa
open Go.ChangeShapes Go.WideShapes Go.ChangeAt Go.RowKit Go.Joins
set_option linter.unusedVariables false

theorem grow_own : ownKnob Try.prog.godebug = none := by kernel_rfl
theorem grow_laidOut : laidOutB Try.prog = true := by kernel_rfl

set_option maxRecDepth 100000 in
theorem grow_lifted (os : Os) (started : os.Started) (H : Type) (enc : TypeId × Value → H) :
    ReturnsInHanded {} Try.checked os 7 .any (Rows.rangesGrowSpec.pre6 enc Try.prog Try.f7 Rows.rangesGrowRow.domain false) (Rows.rangesGrowSpec.post enc Try.prog Try.f7 false true false false) := by
  refine returnsInHanded_of_change (C := Try.checked) grow_own started (by kernel_rfl) Try.func7
    (ChangeSpec.witness6 (enc := enc) (C := Try.checked) false ⟨#[], #[.int .u16 0, .int .u8 0, .int .u8 0], []⟩ 8 (by kernel_rfl) (by kernel_rfl) (by kernel_rfl) (by kernel_rfl)) ?_
  intro W base args ds gs before hval0 hW hcnd _
  have hval : ∀ (j : Nat) t v, Try.f7.params[j]? = some t → args[j]? = some v → Value.okWide Try.prog W .any base t v := hval0
  have hW' := hW
  obtain ⟨p, q, hA0, hV, rfl, hfz, hnd⟩ := hW
  have hA : DataW.TrodAll enc Try.prog W 0 (fun _ => true) true Try.f7.params.toList args.toList ds p := hA0
  rw [Try.params7] at hA hval
  obtain ⟨v0, vs0, d0, ds0, p0, q0, hargs, rfl, rfl, h0, r0⟩ := trodAll_cons hA
  obtain ⟨v1, vs1, d1, ds1, p1, q1, rfl, rfl, rfl, h1, r1⟩ := trodAll_cons r0
  obtain ⟨v2, vs2, d2, ds2, p2, q2, rfl, rfl, rfl, h2, r2⟩ := trodAll_cons r1
  obtain ⟨rfl, rfl, rfl⟩ := trodAll_nil r2
  obtain rfl : args = #[v0, v1, v2] := by cases args; simp_all
  obtain ⟨rfl, rfl⟩ := trodVars_none hV
  obtain ⟨x0, rfl, rfl, rfl, wx0⟩ := open_int Try.underlying37 (hval 0 37 v0 rfl rfl) h0
  have bx0 := bounds_u16 wx0
  obtain ⟨x1, rfl, rfl, rfl, wx1⟩ := open_int Try.underlying5 (hval 1 5 v1 rfl rfl) h1
  have bx1 := bounds_u8 wx1
  obtain ⟨x2, rfl, rfl, rfl, wx2⟩ := open_int Try.underlying5 (hval 2 5 v2 rfl rfl) h2
  have bx2 := bounds_u8 wx2
  clear hA0 hval0
  have walk : Calls Try.prog 7 #[.int .u16 x0, .int .u8 x1, .int .u8 x2] W fun e w' => e = .returned (.bool true) ∧ Below W.heap.size W w' := by
    exact grow_any bx0 bx1 bx2
  refine walk.mono fun e W' ⟨he, bel⟩ => ?_
  subst he
  exact ⟨_, rfl, _, _, _, [], _, [], hW', trodAll_mk1 (shut_bool Try.underlying4 _), (trodAll_cons_mk (shut_int Try.underlying37 wx0) (trodAll_cons_mk (shut_int Try.underlying5 wx1) (trodAll_cons_mk (shut_int Try.underlying5 wx2) trodAll_mk0))), rfl, bel.frame _, fun h => by cases h⟩

theorem grow_over : Rows.rangesGrowRow.holds Try.pinned (OpenSpec.ofChange Rows.rangesGrowSpec) :=
  OpenClaim.holds_of_wide 7 Try.f7 rfl rfl rfl rfl rfl rfl rfl ⟨rfl, rfl, rfl, rfl, rfl⟩ rfl rfl rfl rfl rfl (by kernel_rfl) Try.func7 (by kernel_rfl)
    (of_decide_eq_true (by kernel_rfl)) (by unfold Func.isWrapper; first | (rw [if_pos (by decide +kernel)]; kernel_rfl) | (rw [if_neg (by decide +kernel)]; exact ⟨rfl, rfl⟩))
    (fun os started H enc _ => grow_lifted os started H enc)

/-- For every input RangesGrow returns true, and each argument reads afterwards as before. -/
theorem rangesGrow_holds : Rows.RangesGrowSaid := grow_over
#print axioms rangesGrow_holds
end Go.Proofs.Ytgckedeaoglehaa
