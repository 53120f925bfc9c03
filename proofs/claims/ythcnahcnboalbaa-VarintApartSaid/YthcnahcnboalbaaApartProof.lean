/- VarintApart: for every input the law returns true, and each argument reads afterwards as it read before. No condition. -/
import Derived.Test.YthcnahcnboalbaaRows
import Derived.Test.YthcnahcnboalbaaApart
import Derived.Test.YthcnahcnboalbaaLift
namespace Go.Proofs.Ythcnahcnboalbaa
open Go.ChangeShapes Go.WideShapes Go.ChangeAt Go.RowKit Go.Joins
set_option linter.unusedVariables false

theorem apart_own : ownKnob Try.prog.godebug = none := by kernel_rfl
theorem apart_laidOut : laidOutB Try.prog = true := by kernel_rfl
theorem apart_cells5 : Try.prog.cellsOf 5 = 1 := by kernel_rfl

set_option maxRecDepth 100000 in
theorem apart_lifted (os : Os) (started : os.Started) (H : Type) (enc : TypeId × Value → H) :
    ReturnsInHanded {} Try.checked os 8 .any (Rows.varintApartSpec.pre6 enc Try.prog Try.f8 Rows.varintApartRow.domain false) (Rows.varintApartSpec.post enc Try.prog Try.f8 false true false false) := by
  refine returnsInHanded_of_change (C := Try.checked) apart_own started (by kernel_rfl) Try.func8
    (ChangeSpec.witness6 (enc := enc) (C := Try.checked) false ⟨#[], #[.int .u64 0, .int .u64 0, .slice none 0 0], []⟩ 8 (by kernel_rfl) (by kernel_rfl) (by kernel_rfl) (by kernel_rfl)) ?_
  intro W base args ds gs before hval0 hW hcnd _
  have hval : ∀ (j : Nat) t v, Try.f8.params[j]? = some t → args[j]? = some v → Value.okWide Try.prog W .any base t v := hval0
  have hW' := hW
  obtain ⟨p, q, hA0, hV, rfl, hfz, hnd⟩ := hW
  have hA : DataW.TrodAll enc Try.prog W 0 (fun _ => true) true Try.f8.params.toList args.toList ds p := hA0
  rw [Try.params8] at hA hval
  obtain ⟨v0, vs0, d0, ds0, p0, q0, hargs, rfl, rfl, h0, r0⟩ := trodAll_cons hA
  obtain ⟨v1, vs1, d1, ds1, p1, q1, rfl, rfl, rfl, h1, r1⟩ := trodAll_cons r0
  obtain ⟨v2, vs2, d2, ds2, p2, q2, rfl, rfl, rfl, h2, r2⟩ := trodAll_cons r1
  obtain ⟨rfl, rfl, rfl⟩ := trodAll_nil r2
  obtain rfl : args = #[v0, v1, v2] := by cases args; simp_all
  obtain ⟨rfl, rfl⟩ := trodVars_none hV
  have k2 := h2
  have lt2 : ∀ x ∈ p2, x.block < W.heap.size := by obtain ⟨m, hm⟩ := k2; exact DataW.trod_lt m _ _ _ hm
  obtain ⟨x0, rfl, rfl, rfl, wx0⟩ := open_int Try.underlying38 (hval 0 38 v0 rfl rfl) h0
  have bx0 := bounds_u64 wx0
  obtain ⟨x1, rfl, rfl, rfl, wx1⟩ := open_int Try.underlying38 (hval 1 38 v1 rfl rfl) h1
  have bx1 := bounds_u64 wx1
  obtain ⟨A2, n2, c2, l2, rfl, hs2, hcap2⟩ := sl_of_Trod Try.underlying23 Try.underlying5 apart_cells5 (hval 2 23 v2 rfl rfl) h2
  have hlen2 : n2 = l2.length := by have := hs2.len; rw [byteCells_length] at this; omega
  clear hA0 hval0
  have walk : Calls Try.prog 8 #[.int .u64 x0, .int .u64 x1, .slice A2 n2 c2] W fun e w' => e = .returned (.bool true) ∧ Below W.heap.size W w' := by
    by_cases h : n2 ≤ 300
    · exact apart_any hs2 h bx0 bx1
    · exact apart_long (by omega)
  refine walk.mono fun e W' ⟨he, bel⟩ => ?_
  subst he
  exact ⟨_, rfl, _, _, _, [], _, [], hW', trodAll_mk1 (shut_bool Try.underlying4 _), (trodAll_cons_mk (shut_int Try.underlying38 wx0) (trodAll_cons_mk (shut_int Try.underlying38 wx1) (trodAll_cons_mk (Below.trod apart_laidOut (by kernel_rfl) (of_decide_eq_true (by kernel_rfl)) k2 bel lt2) trodAll_mk0))), rfl, bel.frame _, fun h => by cases h⟩

theorem apart_over : Rows.varintApartRow.holds Try.pinned (OpenSpec.ofChange Rows.varintApartSpec) :=
  OpenClaim.holds_of_wide 8 Try.f8 rfl rfl rfl rfl rfl rfl rfl ⟨rfl, rfl, rfl, rfl, rfl⟩ rfl rfl rfl rfl rfl (by kernel_rfl) Try.func8 (by kernel_rfl)
    (of_decide_eq_true (by kernel_rfl)) (by unfold Func.isWrapper; first | (rw [if_pos (by decide +kernel)]; kernel_rfl) | (rw [if_neg (by decide +kernel)]; exact ⟨rfl, rfl⟩))
    (fun os started H enc _ => apart_lifted os started H enc)

/-- For every input VarintApart returns true, and each argument reads afterwards as before. -/
theorem varintApart_holds : Rows.VarintApartSaid := apart_over
#print axioms varintApart_holds
end Go.Proofs.Ythcnahcnboalbaa
