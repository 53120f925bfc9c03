/- StateOnce: for every input the law returns true, and each argument reads afterwards as it read before. No condition. -/
import Derived.Test.YtfeeincglijmjaaRows
import Derived.Test.YtfeeincglijmjaaTI
import Derived.Test.YtfeeincglijmjaaLift
namespace Go.Proofs.Ytfeeincglijmjaa
open Go.ChangeShapes Go.WideShapes Go.ChangeAt Go.RowKit Go.Joins
set_option linter.unusedVariables false

theorem once_own : ownKnob Try.prog.godebug = none := by kernel_rfl
theorem once_laidOut : laidOutB Try.prog = true := by kernel_rfl
theorem once_cells5 : Try.prog.cellsOf 5 = 1 := by kernel_rfl

set_option maxRecDepth 100000 in
theorem once_lifted (os : Os) (started : os.Started) (H : Type) (enc : TypeId × Value → H) :
    ReturnsInHanded {} Try.checked os 4 .any (Rows.stateOnceSpec.pre6 enc Try.prog Try.f4 Rows.stateOnceRow.domain false) (Rows.stateOnceSpec.post enc Try.prog Try.f4 false true false false) := by
  refine returnsInHanded_of_change (C := Try.checked) once_own started (by kernel_rfl) Try.func4
    (ChangeSpec.witness6 (enc := enc) (C := Try.checked) false ⟨#[], #[.slice none 0 0, .int .u16 0, .int .u16 0, .int .u8 0], []⟩ 8 (by kernel_rfl) (by kernel_rfl) (by kernel_rfl) (by kernel_rfl)) ?_
  intro W base args ds gs before hval0 hW hcnd _
  have hval : ∀ (j : Nat) t v, Try.f4.params[j]? = some t → args[j]? = some v → Value.okWide Try.prog W .any base t v := hval0
  have hW' := hW
  obtain ⟨p, q, hA0, hV, rfl, hfz, hnd⟩ := hW
  have hA : DataW.TrodAll enc Try.prog W 0 (fun _ => true) true Try.f4.params.toList args.toList ds p := hA0
  rw [Try.params4] at hA hval
  obtain ⟨v0, vs0, d0, ds0, p0, q0, hargs, rfl, rfl, h0, r0⟩ := trodAll_cons hA
  obtain ⟨v1, vs1, d1, ds1, p1, q1, rfl, rfl, rfl, h1, r1⟩ := trodAll_cons r0
  obtain ⟨v2, vs2, d2, ds2, p2, q2, rfl, rfl, rfl, h2, r2⟩ := trodAll_cons r1
  obtain ⟨v3, vs3, d3, ds3, p3, q3, rfl, rfl, rfl, h3, r3⟩ := trodAll_cons r2
  obtain ⟨rfl, rfl, rfl⟩ := trodAll_nil r3
  obtain rfl : args = #[v0, v1, v2, v3] := by cases args; simp_all
  obtain ⟨rfl, rfl⟩ := trodVars_none hV
  have k0 := h0
  have lt0 : ∀ x ∈ p0, x.block < W.heap.size := by obtain ⟨m, hm⟩ := k0; exact DataW.trod_lt m _ _ _ hm
  obtain ⟨A0, n0, c0, l0, rfl, hs0, hcap0⟩ := sl_of_Trod Try.underlying23 Try.underlying5 once_cells5 (hval 0 23 v0 rfl rfl) h0
  have hlen0 : n0 = l0.length := by have := hs0.len; rw [byteCells_length] at this; omega
  obtain ⟨x1, rfl, rfl, rfl, wx1⟩ := open_int Try.underlying50 (hval 1 50 v1 rfl rfl) h1
  have bx1 := bounds_u16 wx1
  obtain ⟨x2, rfl, rfl, rfl, wx2⟩ := open_int Try.underlying50 (hval 2 50 v2 rfl rfl) h2
  have bx2 := bounds_u16 wx2
  obtain ⟨x3, rfl, rfl, rfl, wx3⟩ := open_int Try.underlying5 (hval 3 5 v3 rfl rfl) h3
  have bx3 := bounds_u8 wx3
  clear hA0 hval0
  have walk : Calls Try.prog 4 #[.slice A0 n0 c0, .int .u16 x1, .int .u16 x2, .int .u8 x3] W fun e w' => e = .returned (.bool true) ∧ Below W.heap.size W w' := by
    by_cases h : n0 ≤ 500
    · exact once_any hs0 (Nat.le_refl _) h bx1 bx2 bx3
    · exact once_long hs0 (Nat.le_refl _) (by omega)
  refine walk.mono fun e W' ⟨he, bel⟩ => ?_
  subst he
  exact ⟨_, rfl, _, _, _, [], _, [], hW', trodAll_mk1 (shut_bool Try.underlying4 _), (trodAll_cons_mk (Below.trod once_laidOut (by kernel_rfl) (of_decide_eq_true (by kernel_rfl)) k0 bel lt0) (trodAll_cons_mk (shut_int Try.underlying50 wx1) (trodAll_cons_mk (shut_int Try.underlying50 wx2) (trodAll_cons_mk (shut_int Try.underlying5 wx3) trodAll_mk0)))), rfl, bel.frame _, fun h => by cases h⟩

theorem once_over : Rows.stateOnceRow.holds Try.pinned (OpenSpec.ofChange Rows.stateOnceSpec) :=
  OpenClaim.holds_of_wide 4 Try.f4 rfl rfl rfl rfl rfl rfl rfl ⟨rfl, rfl, rfl, rfl, rfl⟩ rfl rfl rfl rfl rfl (by kernel_rfl) Try.func4 (by kernel_rfl)
    (of_decide_eq_true (by kernel_rfl)) (by unfold Func.isWrapper; first | (rw [if_pos (by decide +kernel)]; kernel_rfl) | (rw [if_neg (by decide +kernel)]; exact ⟨rfl, rfl⟩))
    (fun os started H enc _ => once_lifted os started H enc)

/-- For every input StateOnce returns true, and each argument reads afterwards as before. -/
theorem stateOnce_holds : Rows.StateOnceSaid := once_over
#print axioms stateOnce_holds
end Go.Proofs.Ytfeeincglijmjaa
