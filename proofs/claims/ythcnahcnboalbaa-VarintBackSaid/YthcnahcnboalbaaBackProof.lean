/- VarintBack: for every input the law returns true, and each argument reads afterwards as it read before. No condition. -/
import Derived.Test.YthcnahcnboalbaaRows
import Derived.Test.YthcnahcnboalbaaBack
import Derived.Test.YthcnahcnboalbaaLift
namespace Go.Proofs.Ythcnahcnboalbaa
open Go.ChangeShapes Go.WideShapes Go.ChangeAt Go.RowKit Go.Joins
set_option linter.unusedVariables false

theorem back_own : ownKnob Try.prog.godebug = none := by kernel_rfl
theorem back_laidOut : laidOutB Try.prog = true := by kernel_rfl
theorem back_cells5 : Try.prog.cellsOf 5 = 1 := by kernel_rfl

set_option maxRecDepth 100000 in
theorem back_lifted (os : Os) (started : os.Started) (H : Type) (enc : TypeId × Value → H) :
    ReturnsInHanded {} Try.checked os 6 .any (Rows.varintBackSpec.pre6 enc Try.prog Try.f6 Rows.varintBackRow.domain false) (Rows.varintBackSpec.post enc Try.prog Try.f6 false true false false) := by
  refine returnsInHanded_of_change (C := Try.checked) back_own started (by kernel_rfl) Try.func6
    (ChangeSpec.witness6 (enc := enc) (C := Try.checked) false ⟨#[], #[.int .u64 0, .slice none 0 0, .int .u64 0], []⟩ 8 (by kernel_rfl) (by kernel_rfl) (by kernel_rfl) (by kernel_rfl)) ?_
  intro W base args ds gs before hval0 hW hcnd _
  have hval : ∀ (j : Nat) t v, Try.f6.params[j]? = some t → args[j]? = some v → Value.okWide Try.prog W .any base t v := hval0
  have hW' := hW
  obtain ⟨p, q, hA0, hV, rfl, hfz, hnd⟩ := hW
  have hA : DataW.TrodAll enc Try.prog W 0 (fun _ => true) true Try.f6.params.toList args.toList ds p := hA0
  rw [Try.params6] at hA hval
  obtain ⟨v0, vs0, d0, ds0, p0, q0, hargs, rfl, rfl, h0, r0⟩ := trodAll_cons hA
  obtain ⟨v1, vs1, d1, ds1, p1, q1, rfl, rfl, rfl, h1, r1⟩ := trodAll_cons r0
  obtain ⟨v2, vs2, d2, ds2, p2, q2, rfl, rfl, rfl, h2, r2⟩ := trodAll_cons r1
  obtain ⟨rfl, rfl, rfl⟩ := trodAll_nil r2
  obtain rfl : args = #[v0, v1, v2] := by cases args; simp_all
  obtain ⟨rfl, rfl⟩ := trodVars_none hV
  have k1 := h1
  have lt1 : ∀ x ∈ p1, x.block < W.heap.size := by obtain ⟨m, hm⟩ := k1; exact DataW.trod_lt m _ _ _ hm
  obtain ⟨x0, rfl, rfl, rfl, wx0⟩ := open_int Try.underlying38 (hval 0 38 v0 rfl rfl) h0
  have bx0 := bounds_u64 wx0
  obtain ⟨A1, n1, c1, l1, rfl, hs1, hcap1⟩ := sl_of_Trod Try.underlying23 Try.underlying5 back_cells5 (hval 1 23 v1 rfl rfl) h1
  have hlen1 : n1 = l1.length := by have := hs1.len; rw [byteCells_length] at this; omega
  obtain ⟨x2, rfl, rfl, rfl, wx2⟩ := open_int Try.underlying38 (hval 2 38 v2 rfl rfl) h2
  have bx2 := bounds_u64 wx2
  clear hA0 hval0
  have walk : Calls Try.prog 6 #[.int .u64 x0, .slice A1 n1 c1, .int .u64 x2] W fun e w' => e = .returned (.bool true) ∧ Below W.heap.size W w' := by
    by_cases h : n1 ≤ 300
    · exact back_any hs1 h bx0 bx2
    · exact back_long (by omega)
  refine walk.mono fun e W' ⟨he, bel⟩ => ?_
  subst he
  exact ⟨_, rfl, _, _, _, [], _, [], hW', trodAll_mk1 (shut_bool Try.underlying4 _), (trodAll_cons_mk (shut_int Try.underlying38 wx0) (trodAll_cons_mk (Below.trod back_laidOut (by kernel_rfl) (of_decide_eq_true (by kernel_rfl)) k1 bel lt1) (trodAll_cons_mk (shut_int Try.underlying38 wx2) trodAll_mk0))), rfl, bel.frame _, fun h => by cases h⟩

theorem back_over : Rows.varintBackRow.holds Try.pinned (OpenSpec.ofChange Rows.varintBackSpec) :=
  OpenClaim.holds_of_wide 6 Try.f6 rfl rfl rfl rfl rfl rfl rfl ⟨rfl, rfl, rfl, rfl, rfl⟩ rfl rfl rfl rfl rfl (by kernel_rfl) Try.func6 (by kernel_rfl)
    (of_decide_eq_true (by kernel_rfl)) (by unfold Func.isWrapper; first | (rw [if_pos (by decide +kernel)]; kernel_rfl) | (rw [if_neg (by decide +kernel)]; exact ⟨rfl, rfl⟩))
    (fun os started H enc _ => back_lifted os started H enc)

/-- For every input VarintBack returns true, and each argument reads afterwards as before. -/
theorem varintBack_holds : Rows.VarintBackSaid := back_over
#print axioms varintBack_holds
end Go.Proofs.Ythcnahcnboalbaa
