/- Texts of this seat, one behind the other. -/
import Derived.Test.YtfeeincglijmjaaSC
import Derived.Test.YtfeeincglijmjaaZB5
import Derived.Deep.RegionHeld3
import Derived.Deep.DeepCutAuto
namespace Go.Proofs.Ytfeeincglijmjaa
open Go.RowKit
set_option linter.unusedVariables false
set_option linter.unusedSimpArgs false
attribute [local go_sem ↓] Go.wp_at_zero Go.wp_at_succ

theorem eq_in33b (a b c a2 b2 c2 : Int) (w : World) :
    (Op.equalIn 9999 33 (.agg #[.int .i64 a, .int .i64 b, .int .i64 c]) (.agg #[.int .i64 a2, .int .i64 b2, .int .i64 c2])).run Try.prog w = .ok (a == a2 && b == b2 && c == c2) w := by
  have u3 := Try.underlying3
  have a3 := Try.isAgg3
  have z3 := Try.sizeOf3
  rw [show (9999 : Nat) = 9998 + 1 from rfl, Op.equalIn]
  simp only [Sem.run_bind, run_underlying Try.underlying33, Result.andThen_ok]
  simp only [Std.Legacy.Range.forIn_eq_forIn_range', Std.Legacy.Range.size, Nat.sub_zero, Nat.add_sub_cancel, Nat.div_one, List.range'_succ, List.range'_zero, List.forIn_cons, List.forIn_nil]
  go_simp
  by_cases h1 : a = a2 <;> by_cases h2 : b = b2 <;> by_cases h3 : c = c2 <;> simp [h1, h2, h3]
set_option maxRecDepth 100000 in
theorem eq_face0 (a0 a1 a2 a3 a4 a5 a6 : Int) (a7 a8 a9 a10 : Bool) (a11 a12 a13 : Int) (b0 b1 b2 b3 b4 b5 b6 : Int) (b7 b8 b9 b10 : Bool) (b11 b12 b13 : Int) (w : World) :
    (Op.equalIn 10000 115 (.agg #[.int .i64 a0, .int .i64 a1, .int .i64 a2, .int .i64 a3, .int .i64 a4, .int .i64 a5, .int .i64 a6, .bool a7, .bool a8, .bool a9, .bool a10, .int .i64 a11, .int .i64 a12, .int .i64 a13]) (.agg #[.int .i64 b0, .int .i64 b1, .int .i64 b2, .int .i64 b3, .int .i64 b4, .int .i64 b5, .int .i64 b6, .bool b7, .bool b8, .bool b9, .bool b10, .int .i64 b11, .int .i64 b12, .int .i64 b13])).run Try.prog w = .ok (decide (a0 = b0 ∧ a1 = b1 ∧ a2 = b2 ∧ a3 = b3 ∧ a4 = b4 ∧ a5 = b5 ∧ a6 = b6 ∧ a7 = b7 ∧ a8 = b8 ∧ a9 = b9 ∧ a10 = b10 ∧ a11 = b11 ∧ a12 = b12 ∧ a13 = b13)) w := by
  have u3 := Try.underlying3
  have u4 := Try.underlying4
  have a3' := Try.isAgg3
  have a4' := Try.isAgg4
  have a33' := Try.isAgg33
  have z3 := Try.sizeOf3
  have z4 := Try.sizeOf4
  have z33 := Try.sizeOf33
  have e33 := eq_in33b
  rw [show (10000 : Nat) = 9999 + 1 from rfl, run_equalIn_struct w 9999 115 _ _ (by kernel_rfl) (by kernel_rfl)]
  unfold Program.fieldsOf
  rw [Try.underlying115]
  go_simp
  by_cases h0 : a0 = b0
  rotate_left
  · simp [h0]
  by_cases h1 : a1 = b1
  rotate_left
  · simp [h0, h1]
  by_cases h2 : a2 = b2
  rotate_left
  · simp [h0, h1, h2]
  by_cases h3 : a3 = b3
  rotate_left
  · simp [h0, h1, h2, h3]
  by_cases h4 : a4 = b4
  rotate_left
  · simp [h0, h1, h2, h3, h4]
  by_cases h5 : a5 = b5
  rotate_left
  · simp [h0, h1, h2, h3, h4, h5]
  by_cases h6 : a6 = b6
  rotate_left
  · simp [h0, h1, h2, h3, h4, h5, h6]
  by_cases h7 : a7 = b7
  rotate_left
  · simp [h0, h1, h2, h3, h4, h5, h6, h7]
  by_cases h8 : a8 = b8
  rotate_left
  · simp [h0, h1, h2, h3, h4, h5, h6, h7, h8]
  by_cases h9 : a9 = b9
  rotate_left
  · simp [h0, h1, h2, h3, h4, h5, h6, h7, h8, h9]
  by_cases h10 : a10 = b10
  rotate_left
  · simp [h0, h1, h2, h3, h4, h5, h6, h7, h8, h9, h10]
  by_cases h11 : a11 = b11
  rotate_left
  · simp [h0, h1, h2, h3, h4, h5, h6, h7, h8, h9, h10, h11]
  by_cases h12 : a12 = b12
  rotate_left
  · simp [h0, h1, h2, h3, h4, h5, h6, h7, h8, h9, h10, h11, h12]
  by_cases h13 : a13 = b13
  rotate_left
  · simp [h0, h1, h2, h3, h4, h5, h6, h7, h8, h9, h10, h11, h12, h13]
  simp [h0, h1, h2, h3, h4, h5, h6, h7, h8, h9, h10, h11, h12, h13]
/-- All of a screen but its places. -/
def faceEq (s t : Scr) : Bool := decide (s.W = t.W ∧ s.H = t.H ∧ s.X = t.X ∧ s.Y = t.Y ∧ s.At = t.At ∧ s.Tp = t.Tp ∧ s.Bt = t.Bt ∧ s.wr = t.wr ∧ s.au = t.au ∧ s.hi = t.hi ∧ s.al = t.al ∧ s.s0 = t.s0 ∧ s.s1 = t.s1 ∧ s.s2 = t.s2)
theorem faceEq_iff {s t : Scr} : (faceEq s t && decide (s.cs = t.cs) && decide (s.ms = t.ms)) = true ↔ s = t := by
  obtain ⟨W, H, X, Y, At, Tp, Bt, wr, au, hi, al, s0, s1, s2, cs, ms⟩ := s
  obtain ⟨W2, H2, X2, Y2, At2, Tp2, Bt2, wr2, au2, hi2, al2, s02, s12, s22, cs2, ms2⟩ := t
  simp only [faceEq, Bool.and_eq_true, decide_eq_true_iff, Scr.mk.injEq]
  constructor
  · rintro ⟨⟨⟨h0, h1, h2, h3, h4, h5, h6, h7, h8, h9, h10, h11, h12, h13⟩, h14⟩, h15⟩
    exact ⟨h0, h1, h2, h3, h4, h5, h6, h7, h8, h9, h10, h11, h12, h13, h14, h15⟩
  · rintro ⟨h0, h1, h2, h3, h4, h5, h6, h7, h8, h9, h10, h11, h12, h13, h14, h15⟩
    exact ⟨⟨⟨h0, h1, h2, h3, h4, h5, h6, h7, h8, h9, h10, h11, h12, h13⟩, h14⟩, h15⟩
theorem eq_face (s t : Scr) (w : World) : (Op.equalIn 10000 115 (.agg #[.int .i64 s.W, .int .i64 s.H, .int .i64 s.X, .int .i64 s.Y, .int .i64 s.At, .int .i64 s.Tp, .int .i64 s.Bt, .bool s.wr, .bool s.au, .bool s.hi, .bool s.al, .int .i64 s.s0, .int .i64 s.s1, .int .i64 s.s2]) (.agg #[.int .i64 t.W, .int .i64 t.H, .int .i64 t.X, .int .i64 t.Y, .int .i64 t.At, .int .i64 t.Tp, .int .i64 t.Bt, .bool t.wr, .bool t.au, .bool t.hi, .bool t.al, .int .i64 t.s0, .int .i64 t.s1, .int .i64 t.s2])).run Try.prog w = .ok (faceEq s t) w := eq_face0 ..

theorem info115 : (Try.prog.info? 115).map (·.size) = some 14 := by kernel_rfl
theorem face_st {w : World} {g : Nat} {cs : Array Value} (h : Blk w g 115 cs) (hs : cs.size = 14) (v : Array Value) (hv : v.size = 14) (h1 : v.toList.all (·.oneCell') = true) :
    ∃ W', (Instr.storeAt 115 (.pointer (some ⟨g, 0, none⟩)) (.agg v)).run Try.prog w = .ok () W' ∧ Blk W' g 115 v ∧ w.grownBy W' (some g) := by
  have ht := blk_there h
  rw [hs, ← hv] at ht
  have hb := h.all v.toList (by rw [Array.length_toList]; omega)
  exact ⟨_, run_storeAt_mid (P := Try.prog) w g 0 115 v ht (by rw [info115, hv]) (Array.all_eq_true_iff_forall_mem.2 (fun x hx => List.all_eq_true.1 h1 x (by simpa using hx))), by simpa using hb, grownBy_setCells g v.toList 0 w⟩
theorem wpList_stf {ops : Array Oper} {rest : List Oper} {dst : Option Tmp} {x y : Operand} {ty : TypeId} {pos : String} {after : Array _} {a : Act} {w W' : World} {Q : Exit → Act → World → Prop} {g : Nat} {v : Array Value} (hst : (Instr.storeAt 115 (.pointer (some ⟨g, 0, none⟩)) (.agg v)).run Try.prog w = .ok () W')
    (hxy : a.eval x = .pointer (some ⟨g, 0, none⟩) ∧ a.eval y = .agg v) (h : wpList Try.prog ops Q rest (a.put dst undef) W') : wpList Try.prog ops Q (⟨dst, .store 115 x y, ty, pos, after, none⟩ :: rest) a w := by
  refine wpList_plain rfl fun K hK => ?_
  unfold Oper.wp execOp
  simp only [hxy.1, hxy.2, Sem.run_bind, hst, Result.andThen_ok]
  exact hK _ _ h
theorem results_cellf {fn : Func} {t : Tmp} (h : fn.results = #[.cell t 115]) (tmps : Array Value) {w : World} {g : Nat} {cs : Array Value} (hp : tmps.getD t undef = .pointer (some ⟨g, 0, none⟩)) (hb : Blk w g 115 cs) (hs : cs.size = 14) :
    (results fn tmps).run Try.prog w = .ok (.agg cs) w := by
  have hl := run_loadVar_mid (P := Try.prog) w g 0 115 cs.toList _ (blk_range hb) Try.underlying115 rfl (by rw [info115, Array.length_toList, hs])
  have hl2 : (loadVar 115 ⟨g, 0, none⟩).run Try.prog w = .ok (.agg cs) w := by simpa using hl
  simp only [Array.getD_eq_getD_getElem?] at hp
  simp [results, h, hp, hl2, asAddr]
theorem Scr.v_size' (s : Scr) (C : Option Addr) (cc : Nat) (M : Option Addr) (cm : Nat) : (s.v C cc M cm).size = 16 := rfl
set_option maxHeartbeats 8000000 in
set_option maxRecDepth 100000 in
theorem face_any {s : Scr} {C M : Option Addr} {cc cm : Nat} {w : World} :
    Calls Try.prog 82 #[.agg (s.v C cc M cm)] w fun e w' => e = .returned (.agg #[.int .i64 s.W, .int .i64 s.H, .int .i64 s.X, .int .i64 s.Y, .int .i64 s.At, .int .i64 s.Tp, .int .i64 s.Bt, .bool s.wr, .bool s.au, .bool s.hi, .bool s.al, .int .i64 s.s0, .int .i64 s.s1, .int .i64 s.s2]) ∧ Below w.heap.size w w' := by
  have bb := ((Below.refl w.heap.size w).alloc (Nat.le_refl _) (.cells (s.v C cc M cm) 35)).alloc (by simp) (.cells #[.int .i64 0, .int .i64 0, .int .i64 0, .int .i64 0, .int .i64 0, .int .i64 0, .int .i64 0, .bool false, .bool false, .bool false, .bool false, .int .i64 0, .int .i64 0, .int .i64 0] 115)
  have kA := (Blk.new w 35 (s.v C cc M cm) rfl).alloc (.cells #[.int .i64 0, .int .i64 0, .int .i64 0, .int .i64 0, .int .i64 0, .int .i64 0, .int .i64 0, .bool false, .bool false, .bool false, .bool false, .int .i64 0, .int .i64 0, .int .i64 0] 115)
  have kF := Blk.new (w.alloc (.cells (s.v C cc M cm) 35)) 115 #[.int .i64 0, .int .i64 0, .int .i64 0, .int .i64 0, .int .i64 0, .int .i64 0, .int .i64 0, .bool false, .bool false, .bool false, .bool false, .int .i64 0, .int .i64 0, .int .i64 0] (g := w.heap.size + 1) (by simp)
  have ⟨kc, kf⟩ := (show (∀ i, ((w.alloc (.cells (s.v C cc M cm) 35)).alloc (.cells #[.int .i64 0, .int .i64 0, .int .i64 0, .int .i64 0, .int .i64 0, .int .i64 0, .int .i64 0, .bool false, .bool false, .bool false, .bool false, .int .i64 0, .int .i64 0, .int .i64 0] 115)).cell? ⟨w.heap.size, i, none⟩ = (#[.int .i64 s.W, .int .i64 s.H, .slice C s.cs.length cc, .int .i64 s.X, .int .i64 s.Y, .int .i64 s.At, .int .i64 s.Tp, .int .i64 s.Bt, .bool s.wr, .bool s.au, .bool s.hi, .bool s.al, .int .i64 s.s0, .int .i64 s.s1, .int .i64 s.s2, .slice M s.ms.length cm] : Array Value)[i]?) ∧ (∀ i, ((w.alloc (.cells (s.v C cc M cm) 35)).alloc (.cells #[.int .i64 0, .int .i64 0, .int .i64 0, .int .i64 0, .int .i64 0, .int .i64 0, .int .i64 0, .bool false, .bool false, .bool false, .bool false, .int .i64 0, .int .i64 0, .int .i64 0] 115)).frozen? ⟨w.heap.size, i, none⟩ = false) from kA.rules)
  obtain ⟨W4, hst, kb, hgr⟩ := face_st kF rfl #[.int .i64 s.W, .int .i64 s.H, .int .i64 s.X, .int .i64 s.Y, .int .i64 s.At, .int .i64 s.Tp, .int .i64 s.Bt, .bool s.wr, .bool s.au, .bool s.hi, .bool s.al, .int .i64 s.s0, .int .i64 s.s1, .int .i64 s.s2] rfl rfl
  have bb4 := bb.grown hgr (by simp; omega) (fun k e => by cases e; omega)
  have hbd := fun (W : World) => run_build (P := Try.prog) W 115 #[(0, .int .i64 s.W), (1, .int .i64 s.H), (2, .int .i64 s.X), (3, .int .i64 s.Y), (4, .int .i64 s.At), (5, .int .i64 s.Tp), (6, .int .i64 s.Bt), (7, .bool s.wr), (8, .bool s.au), (9, .bool s.hi), (10, .bool s.al), (11, .agg #[.int .i64 s.s0, .int .i64 s.s1, .int .i64 s.s2])] #[.int .i64 s.W, .int .i64 s.H, .int .i64 s.X, .int .i64 s.Y, .int .i64 s.At, .int .i64 s.Tp, .int .i64 s.Bt, .bool s.wr, .bool s.au, .bool s.hi, .bool s.al, .int .i64 s.s0, .int .i64 s.s1, .int .i64 s.s2] (by kernel_rfl)
  have ab0 := addr_add w.heap.size 0
  have ab1 := addr_add w.heap.size 12
  have hs16 := Scr.v_size' s C cc M cm
  generalize s.v C cc M cm = ca at *
  clear kA kF hgr bb
  go_enter Try.func82, Try.ntmps82
  go_upto_region 1 with fail
  generalize (w.alloc (.cells ca 35)).alloc (.cells #[.int .i64 0, .int .i64 0, .int .i64 0, .int .i64 0, .int .i64 0, .int .i64 0, .int .i64 0, .bool false, .bool false, .bool false, .bool false, .int .i64 0, .int .i64 0, .int .i64 0] 115) = W0 at *
  go_wp2_with (((with_reducible refine wpList_stf hst ?_ ?_); exact ⟨rfl, rfl⟩))
  refine bodyPost_ret (v := .agg #[.int .i64 s.W, .int .i64 s.H, .int .i64 s.X, .int .i64 s.Y, .int .i64 s.At, .int .i64 s.Tp, .int .i64 s.Bt, .bool s.wr, .bool s.au, .bool s.hi, .bool s.al, .int .i64 s.s0, .int .i64 s.s1, .int .i64 s.s2]) ?_ rfl ⟨rfl, bb4⟩
  exact results_cellf rfl _ rfl kb rfl

set_option maxHeartbeats 8000000 in
set_option maxRecDepth 100000 in
theorem equalc_any {lo up lo2 up2 cf ct : Nat} {Af At : Option Addr} {f t : List (Int × Int)} {w : World} (hs : Sl w lo up 2 Af f.length cf (cCells f)) (hs2 : Sl w lo2 up2 2 At t.length ct (cCells t)) (hle : f.length ≤ 9223372036854775807) (hle2 : t.length ≤ 9223372036854775807) :
    Calls Try.prog 83 #[.slice Af f.length cf, .slice At t.length ct] w fun e w' => e = .returned (.bool (decide (f = t))) ∧ ∃ k, w' = w.drewN k := by
  by_cases hl : f.length = t.length
  rotate_left
  · have hf : decide (f = t) = false := decide_eq_false (fun h => hl (by rw [h]))
    have hne : ((f.length : Int) == (t.length : Int)) = false := by simp only [beq_eq_false_iff_ne]; omega
    have hne2 : ((f.length : Int) != (t.length : Int)) = true := by simp; omega
    rw [hf]
    clear hs hs2 hl hf
    go_enter Try.func83, Try.ntmps83
    go_wp2_with fail
    go_ret
    exact ⟨rfl, 0, rfl⟩
  have HS := Lib.hid hs
  have HS2 := Lib.hid hs2
  have HL := Lib.hid hl
  have hl1 : f.length ≤ t.length := by omega
  have hl2 : t.length ≤ f.length := by omega
  have heq : ((f.length : Int) == (t.length : Int)) = true := by simp [hl]
  have heq2 : ((f.length : Int) != (t.length : Int)) = false := by simp [hl]
  obtain ⟨R, hR⟩ : ∃ R, R = decide (f = t) := ⟨_, rfl⟩
  rw [← hR]
  have HR := Lib.hid hR
  clear hs hs2 hl hR
  go_enter Try.func83, Try.ntmps83
  go_wp2_with fail
  go_loopg [13] f.length (fun gh s13 wr => ∃ i : Nat, gh = f.length - i ∧ i ≤ f.length ∧ s13 = .int .i64 i ∧ (∃ k, wr = w.drewN k) ∧ Hid (∀ j (h : j < f.length) (h2 : j < t.length), j < i → f[j] = t[j]))
  case atStart => exact ⟨0, by omega, by omega, rfl, ⟨0, rfl⟩, Lib.hid (fun _ _ _ h => absurd h (by omega))⟩
  case round =>
    obtain ⟨i, hgm, hi, rfl, ⟨k, rfl⟩, hno⟩ := hrel
    have HGM := Lib.hid hgm
    clear hgm
    by_cases h : i < f.length
    · have h2 : i < t.length := by omega
      obtain ⟨bf, of, rfl, _, hcf⟩ := slc_cell HS.out (by omega)
      obtain ⟨bt, ot, rfl, _, hct⟩ := slc_cell HS2.out (by omega)
      obtain ⟨k1, k2⟩ := hcf i h
      obtain ⟨k3, k4⟩ := hct i h2
      have a1 := addr_add bf of (i * 2)
      have a2 := addr_add bt ot (i * 2)
      have hiI : (i : Int) < f.length := by omega
      have hiI2 : (i : Int) < t.length := by omega
      clear hcf hct
      by_cases he : f[i] = t[i]
      · have hno2 : ∀ j (h : j < f.length) (h2 : j < t.length), j < i + 1 → f[j] = t[j] := by
          intro j hj hj2 hj1
          by_cases hji : j < i
          · exact hno.out j hj hj2 hji
          · obtain rfl : j = i := by omega
            exact he
        have Hno2 := Lib.hid hno2
        rw [← he] at k3 k4
        clear hno hno2 he
        generalize f[i].1 = x at *
        generalize f[i].2 = y at *
        go_wp2_with fail
        go_quiet (skip)
        go_wp2_with fail
        go_roundg (f.length - (i + 1))
        case measure => have := HGM.out; omega
        case rel => exact ⟨i + 1, rfl, by omega, by go_num, ⟨_, by first | rfl | exact World.drewN_drewN _ _ _⟩, Hno2⟩
      · have hf : R = false := by
          rw [HR.out]
          exact decide_eq_false (fun e => he (by subst e; rfl))
        have hne : (f[i].1 == t[i].1) = false ∨ (f[i].1 = t[i].1 ∧ (f[i].2 == t[i].2) = false) := by
          by_cases hx : f[i].1 = t[i].1
          · exact .inr ⟨hx, by simp only [beq_eq_false_iff_ne]; exact fun hh => he (Prod.ext hx hh)⟩
          · exact .inl (by simp only [beq_eq_false_iff_ne]; exact hx)
        clear hno he HR
        generalize f[i].1 = x at *
        generalize f[i].2 = y at *
        generalize t[i].1 = x2 at *
        generalize t[i].2 = y2 at *
        rcases hne with hx | ⟨rfl, hy⟩
        all_goals
          go_wp2_with fail
          go_quiet (skip)
          go_wp2_with fail
          go_ret
          exact ⟨by first | rfl | (rw [hf]; rfl), _, by first | rfl | exact World.drewN_drewN _ _ _⟩
    · obtain rfl : i = f.length := by omega
      have hf : R = true := by
        rw [HR.out]
        refine decide_eq_true (List.ext_getElem HL.out (fun j h1 h2 => hno.out j h1 h2 h1))
      clear hno HR
      go_wp2_with fail
      go_ret
      exact ⟨by first | rfl | (rw [hf]; rfl), k, rfl⟩
end Go.Proofs.Ytfeeincglijmjaa
