/- StateTells: for every input the law returns true, and each argument reads afterwards as it read before. No condition. -/
import Derived.Test.YtfeeincglijmjaaRows
import Derived.Test.YtfeeincglijmjaaTW
import Derived.Test.YtfeeincglijmjaaLift
namespace Go.Proofs.Ytfeeincglijmjaa
open Go.ChangeShapes Go.WideShapes Go.ChangeAt Go.RowKit Go.Joins
set_option linter.unusedVariables false

theorem stells_own : ownKnob Try.prog.godebug = none := by kernel_rfl
theorem stells_laidOut : laidOutB Try.prog = true := by kernel_rfl

set_option maxRecDepth 100000 in
theorem stells_lifted (os : Os) (started : os.Started) (H : Type) (enc : TypeId × Value → H) :
    ReturnsInHanded {} Try.checked os 10 .any (Rows.stateTellsSpec.pre6 enc Try.prog Try.f10 Rows.stateTellsRow.domain false) (Rows.stateTellsSpec.post enc Try.prog Try.f10 false true false false) := by
  refine returnsInHanded_of_change (C := Try.checked) stells_own started (by kernel_rfl) Try.func10
    (ChangeSpec.witness6 (enc := enc) (C := Try.checked) false ⟨#[], #[.slice none 0 0, .agg #[.int .i64 0, .int .i64 0, .slice none 0 0, .int .i64 0, .int .i64 0, .int .i64 0, .int .i64 0, .int .i64 0, .bool false, .bool false, .bool false, .bool false, .int .i64 0, .int .i64 0, .int .i64 0, .slice none 0 0], .int .i64 0, .int .i64 0], []⟩ 8 (by kernel_rfl) (by kernel_rfl) (by kernel_rfl) (by kernel_rfl)) ?_
  intro W base args ds gs before hval0 hW hcnd _
  have hval : ∀ (j : Nat) t v, Try.f10.params[j]? = some t → args[j]? = some v → Value.okWide Try.prog W .any base t v := hval0
  have hW' := hW
  obtain ⟨p, q, hA0, hV, rfl, hfz, hnd⟩ := hW
  have hA : DataW.TrodAll enc Try.prog W 0 (fun _ => true) true Try.f10.params.toList args.toList ds p := hA0
  rw [Try.params10] at hA hval
  obtain ⟨v0, vs0, d0, ds0, p0, q0, hargs, rfl, rfl, h0, r0⟩ := trodAll_cons hA
  obtain ⟨v1, vs1, d1, ds1, p1, q1, rfl, rfl, rfl, h1, r1⟩ := trodAll_cons r0
  obtain ⟨v2, vs2, d2, ds2, p2, q2, rfl, rfl, rfl, h2, r2⟩ := trodAll_cons r1
  obtain ⟨v3, vs3, d3, ds3, p3, q3, rfl, rfl, rfl, h3, r3⟩ := trodAll_cons r2
  obtain ⟨rfl, rfl, rfl⟩ := trodAll_nil r3
  obtain rfl : args = #[v0, v1, v2, v3] := by cases args; simp_all
  obtain ⟨rfl, rfl⟩ := trodVars_none hV
  have k0 := h0
  have lt0 : ∀ x ∈ p0, x.block < W.heap.size := by obtain ⟨m, hm⟩ := k0; exact DataW.trod_lt m _ _ _ hm
  have k1 := h1
  have lt1 : ∀ x ∈ p1, x.block < W.heap.size := by obtain ⟨m, hm⟩ := k1; exact DataW.trod_lt m _ _ _ hm
  obtain ⟨A0, n0, c0, l0, rfl, sh0, mx0⟩ := shs_of_Trod (hval 0 25 v0 rfl rfl) h0
  obtain ⟨S1, C1, cc1, M1, cm1, rfl, at1, len1⟩ := scr_of_Trod (hval 1 35 v1 rfl rfl) h1
  obtain ⟨x2, rfl, rfl, rfl, wx2⟩ := open_int Try.underlying3 (hval 2 3 v2 rfl rfl) h2
  have bx2 := bounds_i64 wx2
  obtain ⟨x3, rfl, rfl, rfl, wx3⟩ := open_int Try.underlying3 (hval 3 3 v3 rfl rfl) h3
  have bx3 := bounds_i64 wx3
  clear hA0 hval0
  have walk : Calls Try.prog 10 #[.slice A0 n0 c0, .agg (S1.v C1 cc1 M1 cm1), .int .i64 x2, .int .i64 x3] W fun e w' => e = .returned (.bool true) ∧ Below W.heap.size W w' := by
    exact stells_any sh0 (Nat.le_refl _) (len_of_maxLen sh0.sl.le mx0) at1 (Nat.le_refl _) len1 bx2 bx3
  refine walk.mono fun e W' ⟨he, bel⟩ => ?_
  subst he
  exact ⟨_, rfl, _, _, _, [], _, [], hW', trodAll_mk1 (shut_bool Try.underlying4 _), (trodAll_cons_mk (Below.trod stells_laidOut (by kernel_rfl) (of_decide_eq_true (by kernel_rfl)) k0 bel lt0) (trodAll_cons_mk (Below.trod stells_laidOut (by kernel_rfl) (of_decide_eq_true (by kernel_rfl)) k1 bel lt1) (trodAll_cons_mk (shut_int Try.underlying3 wx2) (trodAll_cons_mk (shut_int Try.underlying3 wx3) trodAll_mk0)))), rfl, bel.frame _, fun h => by cases h⟩

theorem stells_over : Rows.stateTellsRow.holds Try.pinned (OpenSpec.ofChange Rows.stateTellsSpec) :=
  OpenClaim.holds_of_wide 10 Try.f10 rfl rfl rfl rfl rfl rfl rfl ⟨rfl, rfl, rfl, rfl, rfl⟩ rfl rfl rfl rfl rfl (by kernel_rfl) Try.func10 (by kernel_rfl)
    (of_decide_eq_true (by kernel_rfl)) (by unfold Func.isWrapper; first | (rw [if_pos (by decide +kernel)]; kernel_rfl) | (rw [if_neg (by decide +kernel)]; exact ⟨rfl, rfl⟩))
    (fun os started H enc _ => stells_lifted os started H enc)

/-- For every input StateTells returns true, and each argument reads afterwards as before. -/
theorem stateTells_holds : Rows.StateTellsSaid := stells_over
#print axioms stateTells_holds
end Go.Proofs.Ytfeeincglijmjaa
