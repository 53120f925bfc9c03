/- SentWhen: for every input the law returns true, and each argument reads afterwards as it read before. No condition. -/
import Derived.Test.YtgebebdapfnmpaaRows
import Derived.Test.YtgebebdapfnmpaaP
import Derived.Test.YtgebebdapfnmpaaLift4
import Derived.Test.YtgebebdapfnmpaaLift
namespace Go.Proofs.Ytgebebdapfnmpaa
open Go.ChangeShapes Go.WideShapes Go.ChangeAt Go.RowKit Go.Joins
set_option linter.unusedVariables false

theorem when_own : ownKnob Try.prog.godebug = none := by kernel_rfl
theorem when_laidOut : laidOutB Try.prog = true := by kernel_rfl
theorem when_cells27 : Try.prog.cellsOf 27 = 5 := by kernel_rfl

set_option maxRecDepth 100000 in
theorem when_lifted (os : Os) (started : os.Started) (H : Type) (enc : TypeId × Value → H) :
    ReturnsInHanded {} Try.checked os 3 .any (Rows.sentWhenSpec.pre6 enc Try.prog Try.f3 Rows.sentWhenRow.domain false) (Rows.sentWhenSpec.post enc Try.prog Try.f3 false true false false) := by
  refine returnsInHanded_of_change (C := Try.checked) when_own started (by kernel_rfl) Try.func3
    (ChangeSpec.witness6 (enc := enc) (C := Try.checked) false ⟨#[], #[.slice none 0 0, .int .i64 0, .int .u16 0, .int .u16 0], []⟩ 8 (by kernel_rfl) (by kernel_rfl) (by kernel_rfl) (by kernel_rfl)) ?_
  intro W base args ds gs before hval0 hW hcnd _
  have hval : ∀ (j : Nat) t v, Try.f3.params[j]? = some t → args[j]? = some v → Value.okWide Try.prog W .any base t v := hval0
  have hW' := hW
  obtain ⟨p, q, hA0, hV, rfl, hfz, hnd⟩ := hW
  have hA : DataW.TrodAll enc Try.prog W 0 (fun _ => true) true Try.f3.params.toList args.toList ds p := hA0
  rw [Try.params3] at hA hval
  obtain ⟨v0, vs0, d0, ds0, p0, q0, hargs, rfl, rfl, h0, r0⟩ := trodAll_cons hA
  obtain ⟨v1, vs1, d1, ds1, p1, q1, rfl, rfl, rfl, h1, r1⟩ := trodAll_cons r0
  obtain ⟨v2, vs2, d2, ds2, p2, q2, rfl, rfl, rfl, h2, r2⟩ := trodAll_cons r1
  obtain ⟨v3, vs3, d3, ds3, p3, q3, rfl, rfl, rfl, h3, r3⟩ := trodAll_cons r2
  obtain ⟨rfl, rfl, rfl⟩ := trodAll_nil r3
  obtain rfl : args = #[v0, v1, v2, v3] := by cases args; simp_all
  obtain ⟨rfl, rfl⟩ := trodVars_none hV
  have k0 := h0
  have lt0 : ∀ x ∈ p0, x.block < W.heap.size := by obtain ⟨m, hm⟩ := k0; exact DataW.trod_lt m _ _ _ hm
  obtain ⟨A0, n0, c0, l0, rfl, hs0, hcap0, hwf0⟩ := slp_of_Trod Try.underlying22 Try.underlying27 (by kernel_rfl) when_cells27 rfl rfl rfl rfl rfl Try.underlying3 Try.underlying4 (hval 0 22 v0 rfl rfl) h0
  obtain ⟨x1, rfl, rfl, rfl, wx1⟩ := open_int Try.underlying3 (hval 1 3 v1 rfl rfl) h1
  have bx1 := bounds_i64 wx1
  obtain ⟨x2, rfl, rfl, rfl, wx2⟩ := open_int Try.underlying23 (hval 2 23 v2 rfl rfl) h2
  have bx2 := bounds_u16 wx2
  obtain ⟨x3, rfl, rfl, rfl, wx3⟩ := open_int Try.underlying23 (hval 3 23 v3 rfl rfl) h3
  have bx3 := bounds_u16 wx3
  clear hA0 hval0
  have walk : Calls Try.prog 3 #[.slice A0 n0 c0, .int .i64 x1, .int .u16 x2, .int .u16 x3] W fun e w' => e = .returned (.bool true) ∧ Below W.heap.size W w' := by
    by_cases h : n0 ≤ 300
    · by_cases hg : pGood l0
      · by_cases hx : x1 ≤ 1152921504606846976
        · by_cases hy : -1152921504606846976 ≤ x1
          · exact when_ok hs0 h hwf0 hg (by omega) (by omega) (by omega)
          · exact when_deep hs0 h hwf0 hg (by omega)
        · exact when_far hs0 h hwf0 hg (by omega)
      · exact when_bad hs0 h hwf0 hg
    · exact when_long (by omega)
  refine walk.mono fun e W' ⟨he, bel⟩ => ?_
  subst he
  exact ⟨_, rfl, _, _, _, [], _, [], hW', trodAll_mk1 (shut_bool Try.underlying4 _), (trodAll_cons_mk (Below.trod when_laidOut (by kernel_rfl) (of_decide_eq_true (by kernel_rfl)) k0 bel lt0) (trodAll_cons_mk (shut_int Try.underlying3 wx1) (trodAll_cons_mk (shut_int Try.underlying23 wx2) (trodAll_cons_mk (shut_int Try.underlying23 wx3) trodAll_mk0)))), rfl, bel.frame _, fun h => by cases h⟩

theorem when_over : Rows.sentWhenRow.holds Try.pinned (OpenSpec.ofChange Rows.sentWhenSpec) :=
  OpenClaim.holds_of_wide 3 Try.f3 rfl rfl rfl rfl rfl rfl rfl ⟨rfl, rfl, rfl, rfl, rfl⟩ rfl rfl rfl rfl rfl (by kernel_rfl) Try.func3 (by kernel_rfl)
    (of_decide_eq_true (by kernel_rfl)) (by unfold Func.isWrapper; first | (rw [if_pos (by decide +kernel)]; kernel_rfl) | (rw [if_neg (by decide +kernel)]; exact ⟨rfl, rfl⟩))
    (fun os started H enc _ => when_lifted os started H enc)

/-- For every input SentWhen returns true, and each argument reads afterwards as before. -/
theorem sentWhen_holds : Rows.SentWhenSaid := when_over
#print axioms sentWhen_holds
end Go.Proofs.Ytgebebdapfnmpaa
