/- SentTime: for every input the law returns true, and each argument reads afterwards as it read before. No condition. -/
import Derived.Test.YtgebebdapfnmpaaRows
import Derived.Test.YtgebebdapfnmpaaK
import Derived.Test.YtgebebdapfnmpaaLift4
import Derived.Test.YtgebebdapfnmpaaLift
namespace Go.Proofs.Ytgebebdapfnmpaa
open Go.ChangeShapes Go.WideShapes Go.ChangeAt Go.RowKit Go.Joins
set_option linter.unusedVariables false

theorem time_own : ownKnob Try.prog.godebug = none := by kernel_rfl
theorem time_laidOut : laidOutB Try.prog = true := by kernel_rfl
theorem time_cells27 : Try.prog.cellsOf 27 = 5 := by kernel_rfl

set_option maxRecDepth 100000 in
theorem time_lifted (os : Os) (started : os.Started) (H : Type) (enc : TypeId × Value → H) :
    ReturnsInHanded {} Try.checked os 5 .any (Rows.sentTimeSpec.pre6 enc Try.prog Try.f5 Rows.sentTimeRow.domain false) (Rows.sentTimeSpec.post enc Try.prog Try.f5 false true false false) := by
  refine returnsInHanded_of_change (C := Try.checked) time_own started (by kernel_rfl) Try.func5
    (ChangeSpec.witness6 (enc := enc) (C := Try.checked) false ⟨#[], #[.slice none 0 0, .int .i64 0, .int .u16 0, .int .u16 0, .int .u8 0], []⟩ 8 (by kernel_rfl) (by kernel_rfl) (by kernel_rfl) (by kernel_rfl)) ?_
  intro W base args ds gs before hval0 hW hcnd _
  have hval : ∀ (j : Nat) t v, Try.f5.params[j]? = some t → args[j]? = some v → Value.okWide Try.prog W .any base t v := hval0
  have hW' := hW
  obtain ⟨p, q, hA0, hV, rfl, hfz, hnd⟩ := hW
  have hA : DataW.TrodAll enc Try.prog W 0 (fun _ => true) true Try.f5.params.toList args.toList ds p := hA0
  rw [Try.params5] at hA hval
  obtain ⟨v0, vs0, d0, ds0, p0, q0, hargs, rfl, rfl, h0, r0⟩ := trodAll_cons hA
  obtain ⟨v1, vs1, d1, ds1, p1, q1, rfl, rfl, rfl, h1, r1⟩ := trodAll_cons r0
  obtain ⟨v2, vs2, d2, ds2, p2, q2, rfl, rfl, rfl, h2, r2⟩ := trodAll_cons r1
  obtain ⟨v3, vs3, d3, ds3, p3, q3, rfl, rfl, rfl, h3, r3⟩ := trodAll_cons r2
  obtain ⟨v4, vs4, d4, ds4, p4, q4, rfl, rfl, rfl, h4, r4⟩ := trodAll_cons r3
  obtain ⟨rfl, rfl, rfl⟩ := trodAll_nil r4
  obtain rfl : args = #[v0, v1, v2, v3, v4] := by cases args; simp_all
  obtain ⟨rfl, rfl⟩ := trodVars_none hV
  have k0 := h0
  have lt0 : ∀ x ∈ p0, x.block < W.heap.size := by obtain ⟨m, hm⟩ := k0; exact DataW.trod_lt m _ _ _ hm
  obtain ⟨A0, n0, c0, l0, rfl, hs0, hcap0, hwf0⟩ := slp_of_Trod Try.underlying22 Try.underlying27 (by kernel_rfl) time_cells27 rfl rfl rfl rfl rfl Try.underlying3 Try.underlying4 (hval 0 22 v0 rfl rfl) h0
  obtain ⟨x1, rfl, rfl, rfl, wx1⟩ := open_int Try.underlying3 (hval 1 3 v1 rfl rfl) h1
  have bx1 := bounds_i64 wx1
  obtain ⟨x2, rfl, rfl, rfl, wx2⟩ := open_int Try.underlying23 (hval 2 23 v2 rfl rfl) h2
  have bx2 := bounds_u16 wx2
  obtain ⟨x3, rfl, rfl, rfl, wx3⟩ := open_int Try.underlying23 (hval 3 23 v3 rfl rfl) h3
  have bx3 := bounds_u16 wx3
  obtain ⟨x4, rfl, rfl, rfl, wx4⟩ := open_int Try.underlying5 (hval 4 5 v4 rfl rfl) h4
  have bx4 := bounds_u8 wx4
  clear hA0 hval0
  have walk : Calls Try.prog 5 #[.slice A0 n0 c0, .int .i64 x1, .int .u16 x2, .int .u16 x3, .int .u8 x4] W fun e w' => e = .returned (.bool true) ∧ Below W.heap.size W w' := by
    by_cases h : n0 ≤ 300
    · by_cases hg : pGood l0
      · by_cases hx : x1 ≤ 1152921504606846976
        · exact time_ok hs0 h hwf0 hg (by omega) (by omega) (by omega) (by omega)
        · exact time_far hs0 h hwf0 hg (by omega)
      · exact time_bad hs0 h hwf0 hg
    · exact time_long (by omega)
  refine walk.mono fun e W' ⟨he, bel⟩ => ?_
  subst he
  exact ⟨_, rfl, _, _, _, [], _, [], hW', trodAll_mk1 (shut_bool Try.underlying4 _), (trodAll_cons_mk (Below.trod time_laidOut (by kernel_rfl) (of_decide_eq_true (by kernel_rfl)) k0 bel lt0) (trodAll_cons_mk (shut_int Try.underlying3 wx1) (trodAll_cons_mk (shut_int Try.underlying23 wx2) (trodAll_cons_mk (shut_int Try.underlying23 wx3) (trodAll_cons_mk (shut_int Try.underlying5 wx4) trodAll_mk0))))), rfl, bel.frame _, fun h => by cases h⟩

theorem time_over : Rows.sentTimeRow.holds Try.pinned (OpenSpec.ofChange Rows.sentTimeSpec) :=
  OpenClaim.holds_of_wide 5 Try.f5 rfl rfl rfl rfl rfl rfl rfl ⟨rfl, rfl, rfl, rfl, rfl⟩ rfl rfl rfl rfl rfl (by kernel_rfl) Try.func5 (by kernel_rfl)
    (of_decide_eq_true (by kernel_rfl)) (by unfold Func.isWrapper; first | (rw [if_pos (by decide +kernel)]; kernel_rfl) | (rw [if_neg (by decide +kernel)]; exact ⟨rfl, rfl⟩))
    (fun os started H enc _ => time_lifted os started H enc)

/-- For every input SentTime returns true, and each argument reads afterwards as before. -/
theorem sentTime_holds : Rows.SentTimeSaid := time_over
#print axioms sentTime_holds
end Go.Proofs.Ytgebebdapfnmpaa
