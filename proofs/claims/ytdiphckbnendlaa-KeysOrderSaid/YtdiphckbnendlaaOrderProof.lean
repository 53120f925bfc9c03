/- KeysOrder: for every input the law returns true, and each argument reads afterwards as it read before. No condition. -/
import Derived.Test.YtdiphckbnendlaaRows
import Derived.Test.YtdiphckbnendlaaOD
import Derived.Test.YtdiphckbnendlaaLift3
import Derived.Test.YtdiphckbnendlaaLift
namespace Go.Proofs.Ytdiphckbnendlaa
open Go.ChangeShapes Go.WideShapes Go.ChangeAt Go.RowKit Go.Joins
set_option linter.unusedVariables false

theorem order_own : ownKnob Try.prog.godebug = none := by kernel_rfl
theorem order_laidOut : laidOutB Try.prog = true := by kernel_rfl
theorem order_cells40 : Try.prog.cellsOf 40 = 4 := by kernel_rfl
theorem order_cells5 : Try.prog.cellsOf 5 = 1 := by kernel_rfl

set_option maxRecDepth 100000 in
theorem order_lifted (os : Os) (started : os.Started) (H : Type) (enc : TypeId × Value → H) :
    ReturnsInHanded {} Try.checked os 5 .any (Rows.keysOrderSpec.pre6 enc Try.prog Try.f5 Rows.keysOrderRow.domain false) (Rows.keysOrderSpec.post enc Try.prog Try.f5 false true false false) := by
  refine returnsInHanded_of_change (C := Try.checked) order_own started (by kernel_rfl) Try.func5
    (ChangeSpec.witness6 (enc := enc) (C := Try.checked) false ⟨#[], #[.slice none 0 0], []⟩ 8 (by kernel_rfl) (by kernel_rfl) (by kernel_rfl) (by kernel_rfl)) ?_
  intro W base args ds gs before hval0 hW hcnd _
  have hval : ∀ (j : Nat) t v, Try.f5.params[j]? = some t → args[j]? = some v → Value.okWide Try.prog W .any base t v := hval0
  have hW' := hW
  obtain ⟨p, q, hA0, hV, rfl, hfz, hnd⟩ := hW
  have hA : DataW.TrodAll enc Try.prog W 0 (fun _ => true) true Try.f5.params.toList args.toList ds p := hA0
  rw [Try.params5] at hA hval
  obtain ⟨v0, vs0, d0, ds0, p0, q0, hargs, rfl, rfl, h0, r0⟩ := trodAll_cons hA
  obtain ⟨rfl, rfl, rfl⟩ := trodAll_nil r0
  obtain rfl : args = #[v0] := by cases args; simp_all
  obtain ⟨rfl, rfl⟩ := trodVars_none hV
  have k0 := h0
  have lt0 : ∀ x ∈ p0, x.block < W.heap.size := by obtain ⟨m, hm⟩ := k0; exact DataW.trod_lt m _ _ _ hm
  obtain ⟨A0, n0, c0, l0, rfl, hs0, hcap0, hwf0⟩ := sls_of_Trod Try.underlying38 Try.underlying40 (by kernel_rfl) order_cells40 rfl rfl rfl rfl Try.underlying3 Try.underlying22 Try.underlying5 order_cells5 (hval 0 38 v0 rfl rfl) h0
  clear hA0 hval0
  have walk : Calls Try.prog 5 #[.slice A0 n0 c0] W fun e w' => e = .returned (.bool true) ∧ Below W.heap.size W w' := by
    have hle := hs0.le
    unfold maxLen at hcap0
    exact order_any hs0 (by omega) hwf0
  refine walk.mono fun e W' ⟨he, bel⟩ => ?_
  subst he
  exact ⟨_, rfl, _, _, _, [], _, [], hW', trodAll_mk1 (shut_bool Try.underlying4 _), (trodAll_cons_mk (Below.trod order_laidOut (by kernel_rfl) (of_decide_eq_true (by kernel_rfl)) k0 bel lt0) trodAll_mk0), rfl, bel.frame _, fun h => by cases h⟩

theorem order_over : Rows.keysOrderRow.holds Try.pinned (OpenSpec.ofChange Rows.keysOrderSpec) :=
  OpenClaim.holds_of_wide 5 Try.f5 rfl rfl rfl rfl rfl rfl rfl ⟨rfl, rfl, rfl, rfl, rfl⟩ rfl rfl rfl rfl rfl (by kernel_rfl) Try.func5 (by kernel_rfl)
    (of_decide_eq_true (by kernel_rfl)) (by unfold Func.isWrapper; first | (rw [if_pos (by decide +kernel)]; kernel_rfl) | (rw [if_neg (by decide +kernel)]; exact ⟨rfl, rfl⟩))
    (fun os started H enc _ => order_lifted os started H enc)

/-- For every input KeysOrder returns true, and each argument reads afterwards as before. -/
theorem keysOrder_holds : Rows.KeysOrderSaid := order_over
#print axioms keysOrder_holds
end Go.Proofs.Ytdiphckbnendlaa
