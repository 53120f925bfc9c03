/- VarintJoined: for every input the law returns true, and each argument reads afterwards as it read before. No condition. -/
import Derived.Test.YthcnahcnboalbaaRows
import Derived.Test.YthcnahcnboalbaaJoined
import Derived.Test.YthcnahcnboalbaaLift2
namespace Go.Proofs.Ythcnahcnboalbaa
open Go.ChangeShapes Go.WideShapes Go.ChangeAt Go.RowKit Go.Joins
set_option linter.unusedVariables false

theorem joined_own : ownKnob Try.prog.godebug = none := by kernel_rfl
theorem joined_laidOut : laidOutB Try.prog = true := by kernel_rfl
theorem joined_cells5 : Try.prog.cellsOf 5 = 1 := by kernel_rfl
theorem joined_cells38 : Try.prog.cellsOf 38 = 1 := by kernel_rfl

set_option maxRecDepth 100000 in
theorem joined_lifted (os : Os) (started : os.Started) (H : Type) (enc : TypeId × Value → H) :
    ReturnsInHanded {} Try.checked os 7 .any (Rows.varintJoinedSpec.pre6 enc Try.prog Try.f7 Rows.varintJoinedRow.domain false) (Rows.varintJoinedSpec.post enc Try.prog Try.f7 false true false false) := by
  refine returnsInHanded_of_change (C := Try.checked) joined_own started (by kernel_rfl) Try.func7
    (ChangeSpec.witness6 (enc := enc) (C := Try.checked) false ⟨#[], #[.slice none 0 0, .slice none 0 0, .slice none 0 0], []⟩ 8 (by kernel_rfl) (by kernel_rfl) (by kernel_rfl) (by kernel_rfl)) ?_
  intro W base args ds gs before hval0 hW hcnd _
  have hval : ∀ (j : Nat) t v, Try.f7.params[j]? = some t → args[j]? = some v → Value.okWide Try.prog W .any base t v := hval0
  have hW' := hW
  obtain ⟨p, q, hA0, hV, rfl, hfz, hnd⟩ := hW
  have hA : DataW.TrodAll enc Try.prog W 0 (fun _ => true) true Try.f7.params.toList args.toList ds p := hA0
  rw [Try.params7] at hA hval
  obtain ⟨v0, vs0, d0, ds0, p0, q0, hargs, rfl, rfl, h0, r0⟩ := trodAll_cons hA
  obtain ⟨v1, vs1, d1, ds1, p1, q1, rfl, rfl, rfl, h1, r1⟩ := trodAll_cons r0
  obtain ⟨v2, vs2, d2, ds2, p2, q2, rfl, rfl, rfl, h2, r2⟩ := trodAll_cons r1
  obtain ⟨rfl, rfl, rfl⟩ := trodAll_nil r2
  obtain rfl : args = #[v0, v1, v2] := by cases args; simp_all
  obtain ⟨rfl, rfl⟩ := trodVars_none hV
  have k0 := h0
  have lt0 : ∀ x ∈ p0, x.block < W.heap.size := by obtain ⟨m, hm⟩ := k0; exact DataW.trod_lt m _ _ _ hm
  have k1 := h1
  have lt1 : ∀ x ∈ p1, x.block < W.heap.size := by obtain ⟨m, hm⟩ := k1; exact DataW.trod_lt m _ _ _ hm
  have k2 := h2
  have lt2 : ∀ x ∈ p2, x.block < W.heap.size := by obtain ⟨m, hm⟩ := k2; exact DataW.trod_lt m _ _ _ hm
  obtain ⟨A0, n0, c0, l0, rfl, hs0, hcap0, hwf0⟩ := sli_of_Trod Try.underlying41 Try.underlying38 joined_cells38 (hval 0 41 v0 rfl rfl) h0
  have hlen0 : n0 = l0.length := by have := hs0.len; rw [List.length_map] at this; omega
  obtain ⟨A1, n1, c1, l1, rfl, hs1, hcap1, hwf1⟩ := sli_of_Trod Try.underlying41 Try.underlying38 joined_cells38 (hval 1 41 v1 rfl rfl) h1
  have hlen1 : n1 = l1.length := by have := hs1.len; rw [List.length_map] at this; omega
  obtain ⟨A2, n2, c2, l2, rfl, hs2, hcap2⟩ := sl_of_Trod Try.underlying23 Try.underlying5 joined_cells5 (hval 2 23 v2 rfl rfl) h2
  have hlen2 : n2 = l2.length := by have := hs2.len; rw [byteCells_length] at this; omega
  clear hA0 hval0
  have walk : Calls Try.prog 7 #[.slice A0 n0 c0, .slice A1 n1 c1, .slice A2 n2 c2] W fun e w' => e = .returned (.bool true) ∧ Below W.heap.size W w' := by
    by_cases h : n0 ≤ 100 ∧ n1 ≤ 100 ∧ n2 ≤ 300
    · exact joined_any hs0 hs1 hs2 h.1 h.2.1 h.2.2 (fun x hx => bounds_u64 (hwf0 x hx)) (fun x hx => bounds_u64 (hwf1 x hx))
    · exact joined_long (by omega)
  refine walk.mono fun e W' ⟨he, bel⟩ => ?_
  subst he
  exact ⟨_, rfl, _, _, _, [], _, [], hW', trodAll_mk1 (shut_bool Try.underlying4 _), (trodAll_cons_mk (Below.trod joined_laidOut (by kernel_rfl) (of_decide_eq_true (by kernel_rfl)) k0 bel lt0) (trodAll_cons_mk (Below.trod joined_laidOut (by kernel_rfl) (of_decide_eq_true (by kernel_rfl)) k1 bel lt1) (trodAll_cons_mk (Below.trod joined_laidOut (by kernel_rfl) (of_decide_eq_true (by kernel_rfl)) k2 bel lt2) trodAll_mk0))), rfl, bel.frame _, fun h => by cases h⟩

theorem joined_over : Rows.varintJoinedRow.holds Try.pinned (OpenSpec.ofChange Rows.varintJoinedSpec) :=
  OpenClaim.holds_of_wide 7 Try.f7 rfl rfl rfl rfl rfl rfl rfl ⟨rfl, rfl, rfl, rfl, rfl⟩ rfl rfl rfl rfl rfl (by kernel_rfl) Try.func7 (by kernel_rfl)
    (of_decide_eq_true (by kernel_rfl)) (by unfold Func.isWrapper; first | (rw [if_pos (by decide +kernel)]; kernel_rfl) | (rw [if_neg (by decide +kernel)]; exact ⟨rfl, rfl⟩))
    (fun os started H enc _ => joined_lifted os started H enc)

/-- For every input VarintJoined returns true, and each argument reads afterwards as before. -/
theorem varintJoined_holds : Rows.VarintJoinedSaid := joined_over
#print axioms varintJoined_holds
end Go.Proofs.Ythcnahcnboalbaa
