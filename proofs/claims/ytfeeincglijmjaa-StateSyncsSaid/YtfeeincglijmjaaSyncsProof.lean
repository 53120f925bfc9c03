/- StateSyncs: for every input the law returns true, and each argument reads afterwards as it read before. No condition. -/
import Derived.Test.YtfeeincglijmjaaRows
import Derived.Test.YtfeeincglijmjaaTS
import Derived.Test.YtfeeincglijmjaaLift
namespace Go.Proofs.Ytfeeincglijmjaa
open Go.ChangeShapes Go.WideShapes Go.ChangeAt Go.RowKit Go.Joins
set_option linter.unusedVariables false

theorem syncs_own : ownKnob Try.prog.godebug = none := by kernel_rfl
theorem syncs_laidOut : laidOutB Try.prog = true := by kernel_rfl
theorem syncs_cells5 : Try.prog.cellsOf 5 = 1 := by kernel_rfl

set_option maxRecDepth 100000 in
theorem syncs_lifted (os : Os) (started : os.Started) (H : Type) (enc : TypeId × Value → H) :
    ReturnsInHanded {} Try.checked os 3 .any (Rows.stateSyncsSpec.pre6 enc Try.prog Try.f3 Rows.stateSyncsRow.domain false) (Rows.stateSyncsSpec.post enc Try.prog Try.f3 false true false false) := by
  refine returnsInHanded_of_change (C := Try.checked) syncs_own started (by kernel_rfl) Try.func3
    (ChangeSpec.witness6 (enc := enc) (C := Try.checked) false ⟨#[], #[.int .u8 0, .int .u8 0, .slice none 0 0, .slice none 0 0, .int .u8 0], []⟩ 8 (by kernel_rfl) (by kernel_rfl) (by kernel_rfl) (by kernel_rfl)) ?_
  intro W base args ds gs before hval0 hW hcnd _
  have hval : ∀ (j : Nat) t v, Try.f3.params[j]? = some t → args[j]? = some v → Value.okWide Try.prog W .any base t v := hval0
  have hW' := hW
  obtain ⟨p, q, hA0, hV, rfl, hfz, hnd⟩ := hW
  have hA : DataW.TrodAll enc Try.prog W 0 (fun _ => true) true Try.f3.params.toList args.toList ds p := hA0
  rw [Try.params3] at hA hval
  obtain ⟨v0, vs0, d0, ds0, p0, q0, hargs, rfl, rfl, h0, r0⟩ := trodAll_cons hA
  obtain ⟨v1, vs1, d1, ds1, p1, q1, rfl, rfl, rfl, h1, r1⟩ := trodAll_cons r0
  obtain ⟨v2, vs2, d2, ds2, p2, q2, rfl, rfl, rfl, h2, r2⟩ := trodAll_cons r1
  obtain ⟨v3, vs3, d3, ds3, p3, q3, rfl, rfl, rfl, h3, r3⟩ := trodAll_cons r2
  obtain ⟨v4, vs4, d4, ds4, p4, q4, rfl, rfl, rfl, h4, r4⟩ := trodAll_cons r3
  obtain ⟨rfl, rfl, rfl⟩ := trodAll_nil r4
  obtain rfl : args = #[v0, v1, v2, v3, v4] := by cases args; simp_all
  obtain ⟨rfl, rfl⟩ := trodVars_none hV
  have k2 := h2
  have lt2 : ∀ x ∈ p2, x.block < W.heap.size := by obtain ⟨m, hm⟩ := k2; exact DataW.trod_lt m _ _ _ hm
  have k3 := h3
  have lt3 : ∀ x ∈ p3, x.block < W.heap.size := by obtain ⟨m, hm⟩ := k3; exact DataW.trod_lt m _ _ _ hm
  obtain ⟨x0, rfl, rfl, rfl, wx0⟩ := open_int Try.underlying5 (hval 0 5 v0 rfl rfl) h0
  have bx0 := bounds_u8 wx0
  obtain ⟨x1, rfl, rfl, rfl, wx1⟩ := open_int Try.underlying5 (hval 1 5 v1 rfl rfl) h1
  have bx1 := bounds_u8 wx1
  obtain ⟨A2, n2, c2, l2, rfl, sc2, mx2⟩ := scs_of_Trod (hval 2 22 v2 rfl rfl) h2
  obtain ⟨A3, n3, c3, l3, rfl, hs3, hcap3⟩ := sl_of_Trod Try.underlying23 Try.underlying5 syncs_cells5 (hval 3 23 v3 rfl rfl) h3
  have hlen3 : n3 = l3.length := by have := hs3.len; rw [byteCells_length] at this; omega
  obtain ⟨x4, rfl, rfl, rfl, wx4⟩ := open_int Try.underlying5 (hval 4 5 v4 rfl rfl) h4
  have bx4 := bounds_u8 wx4
  clear hA0 hval0
  have walk : Calls Try.prog 3 #[.int .u8 x0, .int .u8 x1, .slice A2 n2 c2, .slice A3 n3 c3, .int .u8 x4] W fun e w' => e = .returned (.bool true) ∧ Below W.heap.size W w' := by
    exact syncs_any sc2 (Nat.le_refl _) (len_of_maxLen sc2.sl.le mx2) hs3 (Nat.le_refl _) (len_of_maxLen hs3.le hcap3) bx0 bx1 bx4
  refine walk.mono fun e W' ⟨he, bel⟩ => ?_
  subst he
  exact ⟨_, rfl, _, _, _, [], _, [], hW', trodAll_mk1 (shut_bool Try.underlying4 _), (trodAll_cons_mk (shut_int Try.underlying5 wx0) (trodAll_cons_mk (shut_int Try.underlying5 wx1) (trodAll_cons_mk (Below.trod syncs_laidOut (by kernel_rfl) (of_decide_eq_true (by kernel_rfl)) k2 bel lt2) (trodAll_cons_mk (Below.trod syncs_laidOut (by kernel_rfl) (of_decide_eq_true (by kernel_rfl)) k3 bel lt3) (trodAll_cons_mk (shut_int Try.underlying5 wx4) trodAll_mk0))))), rfl, bel.frame _, fun h => by cases h⟩

theorem syncs_over : Rows.stateSyncsRow.holds Try.pinned (OpenSpec.ofChange Rows.stateSyncsSpec) :=
  OpenClaim.holds_of_wide 3 Try.f3 rfl rfl rfl rfl rfl rfl rfl ⟨rfl, rfl, rfl, rfl, rfl⟩ rfl rfl rfl rfl rfl (by kernel_rfl) Try.func3 (by kernel_rfl)
    (of_decide_eq_true (by kernel_rfl)) (by unfold Func.isWrapper; first | (rw [if_pos (by decide +kernel)]; kernel_rfl) | (rw [if_neg (by decide +kernel)]; exact ⟨rfl, rfl⟩))
    (fun os started H enc _ => syncs_lifted os started H enc)

/-- For every input StateSyncs returns true, and each argument reads afterwards as before. -/
theorem stateSyncs_holds : Rows.StateSyncsSaid := syncs_over
#print axioms stateSyncs_holds
end Go.Proofs.Ytfeeincglijmjaa
