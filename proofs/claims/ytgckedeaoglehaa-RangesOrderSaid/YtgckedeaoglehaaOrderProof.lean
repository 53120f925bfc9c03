/- RangesOrder: for every input the law returns true, and each argument reads afterwards as it read before. No condition. -/
import Derived.Test.YtgckedeaoglehaaRows
import Derived.Test.YtgckedeaoglehaaOrd
import Derived.Test.YtgckedeaoglehaaLift2
namespace Go.Proofs.Ytgckedeaoglehaa
open Go.ChangeShapes Go.WideShapes Go.ChangeAt Go.RowKit Go.Joins
set_option linter.unusedVariables false

theorem order_own : ownKnob Try.prog.godebug = none := by kernel_rfl
theorem order_laidOut : laidOutB Try.prog = true := by kernel_rfl
theorem order_cells37 : Try.prog.cellsOf 37 = 1 := by kernel_rfl

set_option maxRecDepth 100000 in
theorem order_lifted (os : Os) (started : os.Started) (H : Type) (enc : TypeId × Value → H) :
    ReturnsInHanded {} Try.checked os 6 .any (Rows.rangesOrderSpec.pre6 enc Try.prog Try.f6 Rows.rangesOrderRow.domain false) (Rows.rangesOrderSpec.post enc Try.prog Try.f6 false true false false) := by
  refine returnsInHanded_of_change (C := Try.checked) order_own started (by kernel_rfl) Try.func6
    (ChangeSpec.witness6 (enc := enc) (C := Try.checked) false ⟨#[], #[.slice none 0 0, .int .u8 0], []⟩ 8 (by kernel_rfl) (by kernel_rfl) (by kernel_rfl) (by kernel_rfl)) ?_
  intro W base args ds gs before hval0 hW hcnd _
  have hval : ∀ (j : Nat) t v, Try.f6.params[j]? = some t → args[j]? = some v → Value.okWide Try.prog W .any base t v := hval0
  have hW' := hW
  obtain ⟨p, q, hA0, hV, rfl, hfz, hnd⟩ := hW
  have hA : DataW.TrodAll enc Try.prog W 0 (fun _ => true) true Try.f6.params.toList args.toList ds p := hA0
  rw [Try.params6] at hA hval
  obtain ⟨v0, vs0, d0, ds0, p0, q0, hargs, rfl, rfl, h0, r0⟩ := trodAll_cons hA
  obtain ⟨v1, vs1, d1, ds1, p1, q1, rfl, rfl, rfl, h1, r1⟩ := trodAll_cons r0
  obtain ⟨rfl, rfl, rfl⟩ := trodAll_nil r1
  obtain rfl : args = #[v0, v1] := by cases args; simp_all
  obtain ⟨rfl, rfl⟩ := trodVars_none hV
  have k0 := h0
  have lt0 : ∀ x ∈ p0, x.block < W.heap.size := by obtain ⟨m, hm⟩ := k0; exact DataW.trod_lt m _ _ _ hm
  obtain ⟨A0, n0, c0, l0, rfl, hs0, hcap0, hwf0⟩ := sli_of_Trod Try.underlying36 Try.underlying37 order_cells37 (hval 0 36 v0 rfl rfl) h0
  have hlen0 : n0 = l0.length := by have := hs0.len; rw [List.length_map] at this; omega
  obtain ⟨x1, rfl, rfl, rfl, wx1⟩ := open_int Try.underlying5 (hval 1 5 v1 rfl rfl) h1
  have bx1 := bounds_u8 wx1
  clear hA0 hval0
  have walk : Calls Try.prog 6 #[.slice A0 n0 c0, .int .u8 x1] W fun e w' => e = .returned (.bool true) ∧ Below W.heap.size W w' := by
    exact order_any hs0 (fun x hx => bounds_u16 (hwf0 x hx)) bx1
  refine walk.mono fun e W' ⟨he, bel⟩ => ?_
  subst he
  exact ⟨_, rfl, _, _, _, [], _, [], hW', trodAll_mk1 (shut_bool Try.underlying4 _), (trodAll_cons_mk (Below.trod order_laidOut (by kernel_rfl) (of_decide_eq_true (by kernel_rfl)) k0 bel lt0) (trodAll_cons_mk (shut_int Try.underlying5 wx1) trodAll_mk0)), rfl, bel.frame _, fun h => by cases h⟩

theorem order_over : Rows.rangesOrderRow.holds Try.pinned (OpenSpec.ofChange Rows.rangesOrderSpec) :=
  OpenClaim.holds_of_wide 6 Try.f6 rfl rfl rfl rfl rfl rfl rfl ⟨rfl, rfl, rfl, rfl, rfl⟩ rfl rfl rfl rfl rfl (by kernel_rfl) Try.func6 (by kernel_rfl)
    (of_decide_eq_true (by kernel_rfl)) (by unfold Func.isWrapper; first | (rw [if_pos (by decide +kernel)]; kernel_rfl) | (rw [if_neg (by decide +kernel)]; exact ⟨rfl, rfl⟩))
    (fun os started H enc _ => order_lifted os started H enc)

/-- For every input RangesOrder returns true, and each argument reads afterwards as before. -/
theorem rangesOrder_holds : Rows.RangesOrderSaid := order_over
#print axioms rangesOrder_holds
end Go.Proofs.Ytgckedeaoglehaa
