/- SentNone: for every input the law returns true, and each argument reads afterwards as it read before. No condition. -/
import Derived.Test.YtgebebdapfnmpaaRows
import Derived.Test.YtgebebdapfnmpaaN
import Derived.Test.YtgebebdapfnmpaaLift4
import Derived.Test.YtgebebdapfnmpaaLift
namespace Go.Proofs.Ytgebebdapfnmpaa
open Go.ChangeShapes Go.WideShapes Go.ChangeAt Go.RowKit Go.Joins
set_option linter.unusedVariables false

theorem none_own : ownKnob Try.prog.godebug = none := by kernel_rfl
theorem none_laidOut : laidOutB Try.prog = true := by kernel_rfl
theorem none_cells27 : Try.prog.cellsOf 27 = 5 := by kernel_rfl
theorem none_cells41 : Try.prog.cellsOf 41 = 2 := by kernel_rfl

set_option maxRecDepth 100000 in
theorem none_lifted (os : Os) (started : os.Started) (H : Type) (enc : TypeId × Value → H) :
    ReturnsInHanded {} Try.checked os 4 .any (Rows.sentNoneSpec.pre6 enc Try.prog Try.f4 Rows.sentNoneRow.domain false) (Rows.sentNoneSpec.post enc Try.prog Try.f4 false true false false) := by
  refine returnsInHanded_of_change (C := Try.checked) none_own started (by kernel_rfl) Try.func4
    (ChangeSpec.witness6 (enc := enc) (C := Try.checked) false ⟨#[], #[.slice none 0 0, .slice none 0 0, .int .i64 0], []⟩ 8 (by kernel_rfl) (by kernel_rfl) (by kernel_rfl) (by kernel_rfl)) ?_
  intro W base args ds gs before hval0 hW hcnd _
  have hval : ∀ (j : Nat) t v, Try.f4.params[j]? = some t → args[j]? = some v → Value.okWide Try.prog W .any base t v := hval0
  have hW' := hW
  obtain ⟨p, q, hA0, hV, rfl, hfz, hnd⟩ := hW
  have hA : DataW.TrodAll enc Try.prog W 0 (fun _ => true) true Try.f4.params.toList args.toList ds p := hA0
  rw [Try.params4] at hA hval
  obtain ⟨v0, vs0, d0, ds0, p0, q0, hargs, rfl, rfl, h0, r0⟩ := trodAll_cons hA
  obtain ⟨v1, vs1, d1, ds1, p1, q1, rfl, rfl, rfl, h1, r1⟩ := trodAll_cons r0
  obtain ⟨v2, vs2, d2, ds2, p2, q2, rfl, rfl, rfl, h2, r2⟩ := trodAll_cons r1
  obtain ⟨rfl, rfl, rfl⟩ := trodAll_nil r2
  obtain rfl : args = #[v0, v1, v2] := by cases args; simp_all
  obtain ⟨rfl, rfl⟩ := trodVars_none hV
  have k0 := h0
  have lt0 : ∀ x ∈ p0, x.block < W.heap.size := by obtain ⟨m, hm⟩ := k0; exact DataW.trod_lt m _ _ _ hm
  have k1 := h1
  have lt1 : ∀ x ∈ p1, x.block < W.heap.size := by obtain ⟨m, hm⟩ := k1; exact DataW.trod_lt m _ _ _ hm
  obtain ⟨A0, n0, c0, l0, rfl, hs0, hcap0, hwf0⟩ := slp_of_Trod Try.underlying22 Try.underlying27 (by kernel_rfl) none_cells27 rfl rfl rfl rfl rfl Try.underlying3 Try.underlying4 (hval 0 22 v0 rfl rfl) h0
  obtain ⟨A1, n1, c1, l1, rfl, hs1, hcap1, hwf1⟩ := slr_of_Trod Try.underlying34 Try.underlying41 (by kernel_rfl) none_cells41 rfl rfl Try.underlying3 (hval 1 34 v1 rfl rfl) h1
  obtain ⟨x2, rfl, rfl, rfl, wx2⟩ := open_int Try.underlying3 (hval 2 3 v2 rfl rfl) h2
  have bx2 := bounds_i64 wx2
  clear hA0 hval0
  have walk : Calls Try.prog 4 #[.slice A0 n0 c0, .slice A1 n1 c1, .int .i64 x2] W fun e w' => e = .returned (.bool true) ∧ Below W.heap.size W w' := by
    by_cases h : n0 ≤ 400
    · by_cases h1 : n1 ≤ 40
      · by_cases hg : pOk l0
        · exact none_good hs0 h h1 hwf0 hg
        · exact none_bad hs0 hs1 h h1 hwf0 hwf1 hg bx2
      · exact none_long2 h (by omega)
    · exact none_long (by omega)
  refine walk.mono fun e W' ⟨he, bel⟩ => ?_
  subst he
  exact ⟨_, rfl, _, _, _, [], _, [], hW', trodAll_mk1 (shut_bool Try.underlying4 _), (trodAll_cons_mk (Below.trod none_laidOut (by kernel_rfl) (of_decide_eq_true (by kernel_rfl)) k0 bel lt0) (trodAll_cons_mk (Below.trod none_laidOut (by kernel_rfl) (of_decide_eq_true (by kernel_rfl)) k1 bel lt1) (trodAll_cons_mk (shut_int Try.underlying3 wx2) trodAll_mk0))), rfl, bel.frame _, fun h => by cases h⟩

theorem none_over : Rows.sentNoneRow.holds Try.pinned (OpenSpec.ofChange Rows.sentNoneSpec) :=
  OpenClaim.holds_of_wide 4 Try.f4 rfl rfl rfl rfl rfl rfl rfl ⟨rfl, rfl, rfl, rfl, rfl⟩ rfl rfl rfl rfl rfl (by kernel_rfl) Try.func4 (by kernel_rfl)
    (of_decide_eq_true (by kernel_rfl)) (by unfold Func.isWrapper; first | (rw [if_pos (by decide +kernel)]; kernel_rfl) | (rw [if_neg (by decide +kernel)]; exact ⟨rfl, rfl⟩))
    (fun os started H enc _ => none_lifted os started H enc)

/-- For every input SentNone returns true, and each argument reads afterwards as before. -/
theorem sentNone_holds : Rows.SentNoneSaid := none_over
#print axioms sentNone_holds
end Go.Proofs.Ytgebebdapfnmpaa
