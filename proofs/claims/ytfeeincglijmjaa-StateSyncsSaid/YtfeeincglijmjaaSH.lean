/- The walk of state's alike. -/
import Derived.Test.YtfeeincglijmjaaSG
import Derived.Test.YtfeeincglijmjaaZB9
import Derived.Deep.RegionHeld3
import Derived.Deep.DeepCutAuto
namespace Go.Proofs.Ytfeeincglijmjaa
open Go.RowKit
set_option linter.unusedVariables false
set_option linter.unusedSimpArgs false
attribute [local go_sem ↓] Go.wp_at_zero Go.wp_at_succ

/-- A load of a whole screen, as an operation. -/
theorem exec_lds {w : World} {a : Act} {x : Operand} {g o : Nat} {cs : Array Value} {dst : Option Tmp} {ty : TypeId} {pos : String} {after : Array _} {gd : Option _} (hb : Hid (w.rangeAt g o cs.toList)) (hs : cs.size = 16) (hx : a.eval x = .pointer (some ⟨g, o, none⟩)) :
    (execOp a.eval ⟨dst, .load 35 x, ty, pos, after, gd⟩).run Try.prog w = .ok (.value (.agg cs)) w := by
  have := run_loadAt_mid (P := Try.prog) w g o 35 cs.toList _ hb.out Try.underlying35 rfl (by rw [info35, Array.length_toList, hs])
  unfold execOp
  simp only [hx, Sem.run_bind, this, Result.andThen_ok, Sem.run_pure]

set_option maxHeartbeats 4000000 in
set_option maxRecDepth 100000 in
theorem alike_any {lo up lo2 up2 : Nat} {s t : Scr} {C M C2 M2 : Option Addr} {cc cm cc2 cm2 : Nat} {w : World} (hat : ScrAt w lo up s C cc M cm) (hup : up ≤ w.heap.size) (hat2 : ScrAt w lo2 up2 t C2 cc2 M2 cm2) (hup2 : up2 ≤ w.heap.size) (hl : s.Len) (hl2 : t.Len) (R : Bool) (hR : R = (faceEq s t && decide (s.cs = t.cs) && decide (s.ms = t.ms))) :
    Calls Try.prog 43 #[.agg (s.v C cc M cm), .agg (t.v C2 cc2 M2 cm2)] w fun e w' => e = .returned (.bool R) ∧ Below w.heap.size w w' := by
  have HF1 := Lib.hid (fun W => face_any (s := s) (C := C) (M := M) (cc := cc) (cm := cm) (w := W))
  have HF2 := Lib.hid (fun W => face_any (s := t) (C := C2) (M := M2) (cc := cc2) (cm := cm2) (w := W))
  have bb := ((Below.refl w.heap.size w).alloc (Nat.le_refl _) (.cells (s.v C cc M cm) 35)).alloc (by simp) (.cells (t.v C2 cc2 M2 cm2) 35)
  have kA := (Blk.new w 35 (s.v C cc M cm) rfl).alloc (.cells (t.v C2 cc2 M2 cm2) 35)
  have kB := Blk.new (w.alloc (.cells (s.v C cc M cm) 35)) 35 (t.v C2 cc2 M2 cm2) (g := w.heap.size + 1) (by simp)
  have HA := hat.below bb hup
  have HB := hat2.below bb hup2
  have z : w.heap.size + 2 ≤ ((w.alloc (.cells (s.v C cc M cm) 35)).alloc (.cells (t.v C2 cc2 M2 cm2) 35)).heap.size := by simp
  have hs16 := Scr.v_size' s C cc M cm
  have ht16 := Scr.v_size' t C2 cc2 M2 cm2
  have Hl := Lib.hid (And.intro hl hl2)
  have HR := Lib.hid hR
  have HC1 := Lib.hid (show (s.v C cc M cm)[2]? = some (.slice C s.cs.length cc) ∧ (s.v C cc M cm)[15]? = some (.slice M s.ms.length cm) from ⟨rfl, rfl⟩)
  have HC2 := Lib.hid (show (t.v C2 cc2 M2 cm2)[2]? = some (.slice C2 t.cs.length cc2) ∧ (t.v C2 cc2 M2 cm2)[15]? = some (.slice M2 t.ms.length cm2) from ⟨rfl, rfl⟩)
  generalize s.v C cc M cm = ca at *
  generalize t.v C2 cc2 M2 cm2 = cb at *
  clear hat hat2 hl hl2 hR
  go_enter Try.func43, Try.ntmps43
  go_upto_region 2 with fail
  generalize (w.alloc (.cells ca 35)).alloc (.cells cb 35) = w0 at *
  have HS := Lib.hid (fun W (q : Below w0.heap.size w0 W) => (show (Hid (W.rangeAt w.heap.size 0 ca.toList) ∧ Hid (W.rangeAt (w.heap.size + 1) 0 cb.toList)) ∧ (W.cell? ⟨w.heap.size, 2, none⟩ = some (.slice C s.cs.length cc) ∧ W.cell? ⟨w.heap.size, 15, none⟩ = some (.slice M s.ms.length cm)) ∧ (W.cell? ⟨w.heap.size + 1, 2, none⟩ = some (.slice C2 t.cs.length cc2) ∧ W.cell? ⟨w.heap.size + 1, 15, none⟩ = some (.slice M2 t.ms.length cm2)) from by
    have k1 := kA.below q (by omega)
    have k2 := kB.below q (by omega)
    exact ⟨⟨Lib.hid (blk_range k1), Lib.hid (blk_range k2)⟩, ⟨(k1.rules.1 2).trans HC1.out.1, (k1.rules.1 15).trans HC1.out.2⟩, ⟨(k2.rules.1 2).trans HC2.out.1, (k2.rules.1 15).trans HC2.out.2⟩⟩))
  have HE1 := Lib.hid (fun W (q : Below w0.heap.size w0 W) => equalc_any (HA.below q (by omega)).c (HB.below q (by omega)).c Hl.out.1.1 Hl.out.2.1)
  have HE2 := Lib.hid (fun W (q : Below w0.heap.size w0 W) => equalc_any (HA.below q (by omega)).m (HB.below q (by omega)).m Hl.out.1.2 Hl.out.2.2)
  have b00 : Below w0.heap.size w0 w0.drew := (Below.refl _ _).drew
  have ab0 := addr_add w.heap.size 2
  have ab1 := addr_add w.heap.size 15
  have ef := eq_face s t
  have Hl2 := Hl.out
  have l1 := Hl2.1.1
  have l2 := Hl2.1.2
  have l3 := Hl2.2.1
  have l4 := Hl2.2.2
  clear kA kB HA HB HC1 HC2 Hl Hl2
  rcases Bool.eq_false_or_eq_true (faceEq s t) with hf | hf
  rotate_left
  · have hRf : R = false := by rw [HR.out, hf]; rfl
    subst hRf
    rw [hf] at ef
    clear HR HE1 HE2 hf
    refine wp_region_noPanic ?_
    refine wp_region_held_drew (S := (fun w' : World => (Hid (w'.rangeAt w.heap.size 0 ca.toList) ∧ Hid (w'.rangeAt (w.heap.size + 1) 0 cb.toList)) ∧ (w'.cell? ⟨w.heap.size, 2, none⟩ = some (.slice C s.cs.length cc) ∧ w'.cell? ⟨w.heap.size, 15, none⟩ = some (.slice M s.ms.length cm)) ∧ (w'.cell? ⟨w.heap.size + 1, 2, none⟩ = some (.slice C2 t.cs.length cc2) ∧ w'.cell? ⟨w.heap.size + 1, 15, none⟩ = some (.slice M2 t.ms.length cm2)))) (by kernel_rfl) (by (try dsimp only); exact HS.out _ b00) (fun hHeld => ?_)
    refine wpAnyH_take (i := 0) (oi := { dst := some 6, op := Op.move (Operand.tmp 5), type := 116, pos := "state.go:50", after := #[], guard := none }) (v := ?_) rfl (by kernel_rfl) (by kernel_rfl) (by kernel_rfl) (fun _ _ _ h => h) (Or.inl ⟨by rfl, ?_⟩) (by assumption) ?_
    rotate_left
    · (intro w hSw; (try dsimp only at hSw); go_simp); (try with_reducible rfl)
    try simp only [Act.put, List.setIfInBounds_toArray, List.set_cons_zero, List.set_cons_succ]
    refine wpAnyH_take (i := 1) (oi := { dst := some 7, op := Op.load 35 (Operand.tmp 2), type := 35, pos := "state.go:50", after := #[], guard := none }) (v := .agg ca) rfl (by kernel_rfl) (by kernel_rfl) (by kernel_rfl) (fun _ _ _ h => h) (Or.inl ⟨by rfl, fun w hSw => exec_lds hSw.1.1 hs16 rfl⟩) (by assumption) ?_
    try simp only [Act.put, List.setIfInBounds_toArray, List.set_cons_zero, List.set_cons_succ]
    refine wpAnyH_take (i := 3) (oi := { dst := some 9, op := Op.move (Operand.tmp 5), type := 116, pos := "state.go:50", after := #[], guard := none }) (v := ?_) rfl (by kernel_rfl) (by kernel_rfl) (by kernel_rfl) (fun _ _ _ h => h) (Or.inl ⟨by rfl, ?_⟩) (by assumption) ?_
    rotate_left
    · (intro w hSw; (try dsimp only at hSw); go_simp); (try with_reducible rfl)
    try simp only [Act.put, List.setIfInBounds_toArray, List.set_cons_zero, List.set_cons_succ]
    refine wpAnyH_take (i := 4) (oi := { dst := some 10, op := Op.load 35 (Operand.tmp 3), type := 35, pos := "state.go:50", after := #[], guard := none }) (v := .agg cb) rfl (by kernel_rfl) (by kernel_rfl) (by kernel_rfl) (fun _ _ _ h => h) (Or.inl ⟨by rfl, fun w hSw => exec_lds hSw.1.2 ht16 rfl⟩) (by assumption) ?_
    try simp only [Act.put, List.setIfInBounds_toArray, List.set_cons_zero, List.set_cons_succ]
    refine wpAnyH_ready (rs := [2]) (by kernel_rfl) (by simp) ?_
    refine AllReadyH.cons (o := { dst := some 8, op := Op.call { callee := Callee.value (Operand.tmp 6), args := #[Operand.tmp 7], argTypes := #[35] }, type := 115, pos := "state.go:50", after := #[{ on := 0, ground := Ground.data }, { on := 1, ground := Ground.data }], guard := none }) rfl (fun K hK => ?_) AllReadyH.nil
    go_simp
    refine (HF1.out _).mono ?_; rintro e w5 ⟨rfl, hb5⟩; have b05 : Below w0.heap.size w0 w5 := Below.trans b00 (hb5.mono (Nat.le_refl _))
    refine hK.out _ _ (by (try dsimp only); exact HS.out _ b05) (fun hHeld => ?_)
    clear hK K
    try simp only [Act.put, List.setIfInBounds_toArray, List.set_cons_zero, List.set_cons_succ]
    refine wpAnyH_ready (rs := [5]) (by kernel_rfl) (by simp) ?_
    refine AllReadyH.cons (o := { dst := some 11, op := Op.call { callee := Callee.value (Operand.tmp 9), args := #[Operand.tmp 10], argTypes := #[35] }, type := 115, pos := "state.go:50", after := #[{ on := 3, ground := Ground.data }, { on := 4, ground := Ground.data }, { on := 2, ground := Ground.chain }], guard := none }) rfl (fun K hK => ?_) AllReadyH.nil
    go_simp
    refine (HF2.out _).mono ?_; rintro e w6 ⟨rfl, hb6⟩; have b06 : Below w0.heap.size w0 w6 := b05.trans (hb6.mono b05.size)
    refine hK.out _ _ (by (try dsimp only); exact HS.out _ b06) (fun hHeld => ?_)
    clear hK K
    try simp only [Act.put, List.setIfInBounds_toArray, List.set_cons_zero, List.set_cons_succ]
    refine wpAnyH_take (i := 6) (oi := { dst := some 12, op := Op.binOp BinOp.eql 115 (Operand.tmp 8) (Operand.tmp 11) 115, type := 4, pos := "state.go:50", after := #[{ on := 2, ground := Ground.data }, { on := 5, ground := Ground.data }], guard := none }) (v := ?_) rfl (by kernel_rfl) (by kernel_rfl) (by kernel_rfl) (fun _ _ _ h => h) (Or.inl ⟨by rfl, ?_⟩) (by assumption) ?_
    rotate_left
    · (intro w hSw; (try dsimp only at hSw); go_simp); (try with_reducible rfl)
    try simp only [Act.put, List.setIfInBounds_toArray, List.set_cons_zero, List.set_cons_succ]
    refine wpAnyH_take (i := 7) (oi := { dst := some 13, op := Op.move (Operand.tmp 12), type := 4, pos := "state.go:50", after := #[{ on := 6, ground := Ground.data }, { on := 5, ground := Ground.chain }], guard := none }) (v := ?_) rfl (by kernel_rfl) (by kernel_rfl) (by kernel_rfl) (fun _ _ _ h => h) (Or.inl ⟨by rfl, ?_⟩) (by assumption) ?_
    rotate_left
    · (intro w hSw; (try dsimp only at hSw); go_simp); (try with_reducible rfl)
    try simp only [Act.put, List.setIfInBounds_toArray, List.set_cons_zero, List.set_cons_succ]
    refine wpAnyH_take (i := 8) (oi := { dst := some 14, op := Op.fieldAddr 35 (Operand.tmp 2) 2, type := 0, pos := "state.go:50", after := #[{ on := 7, ground := Ground.guard }], guard := some (7, true) }) (v := undef) rfl (by kernel_rfl) (by kernel_rfl) (by kernel_rfl) (fun _ _ _ h => h) (Or.inr ⟨by rfl, rfl⟩) (by assumption) ?_
    try simp only [Act.put, List.setIfInBounds_toArray, List.set_cons_zero, List.set_cons_succ]
    refine wpAnyH_take (i := 9) (oi := { dst := some 15, op := Op.load 32 (Operand.tmp 14), type := 32, pos := "state.go:50", after := #[{ on := 8, ground := Ground.data }, { on := 7, ground := Ground.guard }], guard := some (7, true) }) (v := undef) rfl (by kernel_rfl) (by kernel_rfl) (by kernel_rfl) (fun _ _ _ h => h) (Or.inr ⟨by rfl, rfl⟩) (by assumption) ?_
    try simp only [Act.put, List.setIfInBounds_toArray, List.set_cons_zero, List.set_cons_succ]
    refine wpAnyH_take (i := 10) (oi := { dst := some 16, op := Op.fieldAddr 35 (Operand.tmp 3) 2, type := 0, pos := "state.go:50", after := #[{ on := 7, ground := Ground.guard }], guard := some (7, true) }) (v := undef) rfl (by kernel_rfl) (by kernel_rfl) (by kernel_rfl) (fun _ _ _ h => h) (Or.inr ⟨by rfl, rfl⟩) (by assumption) ?_
    try simp only [Act.put, List.setIfInBounds_toArray, List.set_cons_zero, List.set_cons_succ]
    refine wpAnyH_take (i := 11) (oi := { dst := some 17, op := Op.load 32 (Operand.tmp 16), type := 32, pos := "state.go:50", after := #[{ on := 10, ground := Ground.data }, { on := 7, ground := Ground.guard }], guard := some (7, true) }) (v := undef) rfl (by kernel_rfl) (by kernel_rfl) (by kernel_rfl) (fun _ _ _ h => h) (Or.inr ⟨by rfl, rfl⟩) (by assumption) ?_
    try simp only [Act.put, List.setIfInBounds_toArray, List.set_cons_zero, List.set_cons_succ]
    refine wpAnyH_take (i := 12) (oi := { dst := some 18, op := Op.call { callee := Callee.value (Operand.func 83), args := #[Operand.tmp 15, Operand.tmp 17], argTypes := #[32, 32] }, type := 4, pos := "state.go:50", after := #[{ on := 9, ground := Ground.data }, { on := 11, ground := Ground.data }, { on := 7, ground := Ground.chain }, { on := 7, ground := Ground.guard }], guard := some (7, true) }) (v := undef) rfl (by kernel_rfl) (by kernel_rfl) (by kernel_rfl) (fun _ _ _ h => h) (Or.inr ⟨by rfl, rfl⟩) (by assumption) ?_
    try simp only [Act.put, List.setIfInBounds_toArray, List.set_cons_zero, List.set_cons_succ]
    refine wpAnyH_take (i := 13) (oi := { dst := some 19, op := Op.pick (Operand.tmp 13) (Operand.tmp 18) (Operand.const (Value.bool false)), type := 4, pos := "state.go:50", after := #[{ on := 7, ground := Ground.data }, { on := 12, ground := Ground.data }], guard := none }) (v := ?_) rfl (by kernel_rfl) (by kernel_rfl) (by kernel_rfl) (fun _ _ _ h => h) (Or.inl ⟨by rfl, ?_⟩) (by assumption) ?_
    rotate_left
    · (intro w hSw; (try dsimp only at hSw); go_simp); (try with_reducible rfl)
    try simp only [Act.put, List.setIfInBounds_toArray, List.set_cons_zero, List.set_cons_succ]
    refine wpAnyH_take (i := 14) (oi := { dst := some 20, op := Op.move (Operand.tmp 19), type := 4, pos := "state.go:50", after := #[{ on := 13, ground := Ground.data }, { on := 12, ground := Ground.chain }], guard := none }) (v := ?_) rfl (by kernel_rfl) (by kernel_rfl) (by kernel_rfl) (fun _ _ _ h => h) (Or.inl ⟨by rfl, ?_⟩) (by assumption) ?_
    rotate_left
    · (intro w hSw; (try dsimp only at hSw); go_simp); (try with_reducible rfl)
    try simp only [Act.put, List.setIfInBounds_toArray, List.set_cons_zero, List.set_cons_succ]
    refine wpAnyH_take (i := 15) (oi := { dst := some 21, op := Op.fieldAddr 35 (Operand.tmp 2) 13, type := 0, pos := "state.go:50", after := #[{ on := 14, ground := Ground.guard }], guard := some (14, true) }) (v := undef) rfl (by kernel_rfl) (by kernel_rfl) (by kernel_rfl) (fun _ _ _ h => h) (Or.inr ⟨by rfl, rfl⟩) (by assumption) ?_
    try simp only [Act.put, List.setIfInBounds_toArray, List.set_cons_zero, List.set_cons_succ]
    refine wpAnyH_take (i := 16) (oi := { dst := some 22, op := Op.load 32 (Operand.tmp 21), type := 32, pos := "state.go:50", after := #[{ on := 15, ground := Ground.data }, { on := 14, ground := Ground.guard }], guard := some (14, true) }) (v := undef) rfl (by kernel_rfl) (by kernel_rfl) (by kernel_rfl) (fun _ _ _ h => h) (Or.inr ⟨by rfl, rfl⟩) (by assumption) ?_
    try simp only [Act.put, List.setIfInBounds_toArray, List.set_cons_zero, List.set_cons_succ]
    refine wpAnyH_take (i := 17) (oi := { dst := some 23, op := Op.fieldAddr 35 (Operand.tmp 3) 13, type := 0, pos := "state.go:50", after := #[{ on := 14, ground := Ground.guard }], guard := some (14, true) }) (v := undef) rfl (by kernel_rfl) (by kernel_rfl) (by kernel_rfl) (fun _ _ _ h => h) (Or.inr ⟨by rfl, rfl⟩) (by assumption) ?_
    try simp only [Act.put, List.setIfInBounds_toArray, List.set_cons_zero, List.set_cons_succ]
    refine wpAnyH_take (i := 18) (oi := { dst := some 24, op := Op.load 32 (Operand.tmp 23), type := 32, pos := "state.go:50", after := #[{ on := 17, ground := Ground.data }, { on := 14, ground := Ground.guard }], guard := some (14, true) }) (v := undef) rfl (by kernel_rfl) (by kernel_rfl) (by kernel_rfl) (fun _ _ _ h => h) (Or.inr ⟨by rfl, rfl⟩) (by assumption) ?_
    try simp only [Act.put, List.setIfInBounds_toArray, List.set_cons_zero, List.set_cons_succ]
    refine wpAnyH_take (i := 19) (oi := { dst := some 25, op := Op.call { callee := Callee.value (Operand.func 83), args := #[Operand.tmp 22, Operand.tmp 24], argTypes := #[32, 32] }, type := 4, pos := "state.go:50", after := #[{ on := 16, ground := Ground.data }, { on := 18, ground := Ground.data }, { on := 14, ground := Ground.chain }, { on := 14, ground := Ground.guard }], guard := some (14, true) }) (v := undef) rfl (by kernel_rfl) (by kernel_rfl) (by kernel_rfl) (fun _ _ _ h => h) (Or.inr ⟨by rfl, rfl⟩) (by assumption) ?_
    try simp only [Act.put, List.setIfInBounds_toArray, List.set_cons_zero, List.set_cons_succ]
    refine wpAnyH_take (i := 20) (oi := { dst := some 26, op := Op.pick (Operand.tmp 20) (Operand.tmp 25) (Operand.const (Value.bool false)), type := 4, pos := "state.go:50", after := #[{ on := 14, ground := Ground.data }, { on := 19, ground := Ground.data }], guard := none }) (v := ?_) rfl (by kernel_rfl) (by kernel_rfl) (by kernel_rfl) (fun _ _ _ h => h) (Or.inl ⟨by rfl, ?_⟩) (by assumption) ?_
    rotate_left
    · (intro w hSw; (try dsimp only at hSw); go_simp); (try with_reducible rfl)
    try simp only [Act.put, List.setIfInBounds_toArray, List.set_cons_zero, List.set_cons_succ]
    refine wpAnyH_take (i := 21) (oi := { dst := some 4, op := Op.assign (Operand.tmp 26), type := 4, pos := "state.go:50", after := #[{ on := 20, ground := Ground.data }, { on := 19, ground := Ground.chain }, { on := 0, ground := Ground.phase }, { on := 1, ground := Ground.phase }, { on := 2, ground := Ground.phase }, { on := 3, ground := Ground.phase }, { on := 4, ground := Ground.phase }, { on := 5, ground := Ground.phase }, { on := 6, ground := Ground.phase }, { on := 7, ground := Ground.phase }, { on := 8, ground := Ground.phase }, { on := 9, ground := Ground.phase }, { on := 10, ground := Ground.phase }, { on := 11, ground := Ground.phase }, { on := 12, ground := Ground.phase }, { on := 13, ground := Ground.phase }, { on := 14, ground := Ground.phase }, { on := 15, ground := Ground.phase }, { on := 16, ground := Ground.phase }, { on := 17, ground := Ground.phase }, { on := 18, ground := Ground.phase }, { on := 19, ground := Ground.phase }, { on := 20, ground := Ground.phase }], guard := none }) (v := ?_) rfl (by kernel_rfl) (by kernel_rfl) (by kernel_rfl) (fun _ _ _ h => h) (Or.inl ⟨by rfl, ?_⟩) (by assumption) ?_
    rotate_left
    · (intro w hSw; (try dsimp only at hSw); go_simp); (try with_reducible rfl)
    try simp only [Act.put, List.setIfInBounds_toArray, List.set_cons_zero, List.set_cons_succ]
    refine wpAnyH_done (by kernel_rfl) ?_ _
    refine NoPanic.normal ?_
    go_wp2_with fail
    go_ret
    exact ⟨rfl, bb.trans (b06.mono bb.size)⟩
  · rw [hf] at ef
    by_cases hc : s.cs = t.cs
    rotate_left
    · have hRf : R = false := by rw [HR.out, hf, decide_eq_false hc]; rfl
      subst hRf
      have e1 := decide_eq_false hc
      rw [e1] at HE1
      clear HR HE2 hc e1 hf
      refine wp_region_noPanic ?_
      refine wp_region_held_drew (S := (fun w' : World => (Hid (w'.rangeAt w.heap.size 0 ca.toList) ∧ Hid (w'.rangeAt (w.heap.size + 1) 0 cb.toList)) ∧ (w'.cell? ⟨w.heap.size, 2, none⟩ = some (.slice C s.cs.length cc) ∧ w'.cell? ⟨w.heap.size, 15, none⟩ = some (.slice M s.ms.length cm)) ∧ (w'.cell? ⟨w.heap.size + 1, 2, none⟩ = some (.slice C2 t.cs.length cc2) ∧ w'.cell? ⟨w.heap.size + 1, 15, none⟩ = some (.slice M2 t.ms.length cm2)))) (by kernel_rfl) (by (try dsimp only); exact HS.out _ b00) (fun hHeld => ?_)
      refine wpAnyH_take (i := 0) (oi := { dst := some 6, op := Op.move (Operand.tmp 5), type := 116, pos := "state.go:50", after := #[], guard := none }) (v := ?_) rfl (by kernel_rfl) (by kernel_rfl) (by kernel_rfl) (fun _ _ _ h => h) (Or.inl ⟨by rfl, ?_⟩) (by assumption) ?_
      rotate_left
      · (intro w hSw; (try dsimp only at hSw); go_simp); (try with_reducible rfl)
      try simp only [Act.put, List.setIfInBounds_toArray, List.set_cons_zero, List.set_cons_succ]
      refine wpAnyH_take (i := 1) (oi := { dst := some 7, op := Op.load 35 (Operand.tmp 2), type := 35, pos := "state.go:50", after := #[], guard := none }) (v := .agg ca) rfl (by kernel_rfl) (by kernel_rfl) (by kernel_rfl) (fun _ _ _ h => h) (Or.inl ⟨by rfl, fun w hSw => exec_lds hSw.1.1 hs16 rfl⟩) (by assumption) ?_
      try simp only [Act.put, List.setIfInBounds_toArray, List.set_cons_zero, List.set_cons_succ]
      refine wpAnyH_take (i := 3) (oi := { dst := some 9, op := Op.move (Operand.tmp 5), type := 116, pos := "state.go:50", after := #[], guard := none }) (v := ?_) rfl (by kernel_rfl) (by kernel_rfl) (by kernel_rfl) (fun _ _ _ h => h) (Or.inl ⟨by rfl, ?_⟩) (by assumption) ?_
      rotate_left
      · (intro w hSw; (try dsimp only at hSw); go_simp); (try with_reducible rfl)
      try simp only [Act.put, List.setIfInBounds_toArray, List.set_cons_zero, List.set_cons_succ]
      refine wpAnyH_take (i := 4) (oi := { dst := some 10, op := Op.load 35 (Operand.tmp 3), type := 35, pos := "state.go:50", after := #[], guard := none }) (v := .agg cb) rfl (by kernel_rfl) (by kernel_rfl) (by kernel_rfl) (fun _ _ _ h => h) (Or.inl ⟨by rfl, fun w hSw => exec_lds hSw.1.2 ht16 rfl⟩) (by assumption) ?_
      try simp only [Act.put, List.setIfInBounds_toArray, List.set_cons_zero, List.set_cons_succ]
      refine wpAnyH_ready (rs := [2]) (by kernel_rfl) (by simp) ?_
      refine AllReadyH.cons (o := { dst := some 8, op := Op.call { callee := Callee.value (Operand.tmp 6), args := #[Operand.tmp 7], argTypes := #[35] }, type := 115, pos := "state.go:50", after := #[{ on := 0, ground := Ground.data }, { on := 1, ground := Ground.data }], guard := none }) rfl (fun K hK => ?_) AllReadyH.nil
      go_simp
      refine (HF1.out _).mono ?_; rintro e w5 ⟨rfl, hb5⟩; have b05 : Below w0.heap.size w0 w5 := Below.trans b00 (hb5.mono (Nat.le_refl _))
      refine hK.out _ _ (by (try dsimp only); exact HS.out _ b05) (fun hHeld => ?_)
      clear hK K
      try simp only [Act.put, List.setIfInBounds_toArray, List.set_cons_zero, List.set_cons_succ]
      refine wpAnyH_ready (rs := [5]) (by kernel_rfl) (by simp) ?_
      refine AllReadyH.cons (o := { dst := some 11, op := Op.call { callee := Callee.value (Operand.tmp 9), args := #[Operand.tmp 10], argTypes := #[35] }, type := 115, pos := "state.go:50", after := #[{ on := 3, ground := Ground.data }, { on := 4, ground := Ground.data }, { on := 2, ground := Ground.chain }], guard := none }) rfl (fun K hK => ?_) AllReadyH.nil
      go_simp
      refine (HF2.out _).mono ?_; rintro e w6 ⟨rfl, hb6⟩; have b06 : Below w0.heap.size w0 w6 := b05.trans (hb6.mono b05.size)
      refine hK.out _ _ (by (try dsimp only); exact HS.out _ b06) (fun hHeld => ?_)
      clear hK K
      try simp only [Act.put, List.setIfInBounds_toArray, List.set_cons_zero, List.set_cons_succ]
      refine wpAnyH_take (i := 6) (oi := { dst := some 12, op := Op.binOp BinOp.eql 115 (Operand.tmp 8) (Operand.tmp 11) 115, type := 4, pos := "state.go:50", after := #[{ on := 2, ground := Ground.data }, { on := 5, ground := Ground.data }], guard := none }) (v := ?_) rfl (by kernel_rfl) (by kernel_rfl) (by kernel_rfl) (fun _ _ _ h => h) (Or.inl ⟨by rfl, ?_⟩) (by assumption) ?_
      rotate_left
      · (intro w hSw; (try dsimp only at hSw); go_simp); (try with_reducible rfl)
      try simp only [Act.put, List.setIfInBounds_toArray, List.set_cons_zero, List.set_cons_succ]
      refine wpAnyH_take (i := 7) (oi := { dst := some 13, op := Op.move (Operand.tmp 12), type := 4, pos := "state.go:50", after := #[{ on := 6, ground := Ground.data }, { on := 5, ground := Ground.chain }], guard := none }) (v := ?_) rfl (by kernel_rfl) (by kernel_rfl) (by kernel_rfl) (fun _ _ _ h => h) (Or.inl ⟨by rfl, ?_⟩) (by assumption) ?_
      rotate_left
      · (intro w hSw; (try dsimp only at hSw); go_simp); (try with_reducible rfl)
      try simp only [Act.put, List.setIfInBounds_toArray, List.set_cons_zero, List.set_cons_succ]
      refine wpAnyH_take (i := 8) (oi := { dst := some 14, op := Op.fieldAddr 35 (Operand.tmp 2) 2, type := 0, pos := "state.go:50", after := #[{ on := 7, ground := Ground.guard }], guard := some (7, true) }) (v := ?_) rfl (by kernel_rfl) (by kernel_rfl) (by kernel_rfl) (fun _ _ _ h => h) (Or.inl ⟨by rfl, ?_⟩) (by assumption) ?_
      rotate_left
      · (intro w hSw; (try dsimp only at hSw); go_simp); (try with_reducible rfl)
      try simp only [Act.put, List.setIfInBounds_toArray, List.set_cons_zero, List.set_cons_succ]
      refine wpAnyH_take (i := 9) (oi := { dst := some 15, op := Op.load 32 (Operand.tmp 14), type := 32, pos := "state.go:50", after := #[{ on := 8, ground := Ground.data }, { on := 7, ground := Ground.guard }], guard := some (7, true) }) (v := ?_) rfl (by kernel_rfl) (by kernel_rfl) (by kernel_rfl) (fun _ _ _ h => h) (Or.inl ⟨by rfl, ?_⟩) (by assumption) ?_
      rotate_left
      · (intro w hSw; (try dsimp only at hSw); go_simp); (try with_reducible rfl)
      try simp only [Act.put, List.setIfInBounds_toArray, List.set_cons_zero, List.set_cons_succ]
      refine wpAnyH_take (i := 10) (oi := { dst := some 16, op := Op.fieldAddr 35 (Operand.tmp 3) 2, type := 0, pos := "state.go:50", after := #[{ on := 7, ground := Ground.guard }], guard := some (7, true) }) (v := ?_) rfl (by kernel_rfl) (by kernel_rfl) (by kernel_rfl) (fun _ _ _ h => h) (Or.inl ⟨by rfl, ?_⟩) (by assumption) ?_
      rotate_left
      · (intro w hSw; (try dsimp only at hSw); go_simp); (try with_reducible rfl)
      try simp only [Act.put, List.setIfInBounds_toArray, List.set_cons_zero, List.set_cons_succ]
      refine wpAnyH_take (i := 11) (oi := { dst := some 17, op := Op.load 32 (Operand.tmp 16), type := 32, pos := "state.go:50", after := #[{ on := 10, ground := Ground.data }, { on := 7, ground := Ground.guard }], guard := some (7, true) }) (v := ?_) rfl (by kernel_rfl) (by kernel_rfl) (by kernel_rfl) (fun _ _ _ h => h) (Or.inl ⟨by rfl, ?_⟩) (by assumption) ?_
      rotate_left
      · (intro w hSw; (try dsimp only at hSw); go_simp); (try with_reducible rfl)
      try simp only [Act.put, List.setIfInBounds_toArray, List.set_cons_zero, List.set_cons_succ]
      refine wpAnyH_ready (rs := [12]) (by kernel_rfl) (by simp) ?_
      refine AllReadyH.cons (o := { dst := some 18, op := Op.call { callee := Callee.value (Operand.func 83), args := #[Operand.tmp 15, Operand.tmp 17], argTypes := #[32, 32] }, type := 4, pos := "state.go:50", after := #[{ on := 9, ground := Ground.data }, { on := 11, ground := Ground.data }, { on := 7, ground := Ground.chain }, { on := 7, ground := Ground.guard }], guard := some (7, true) }) rfl (fun K hK => ?_) AllReadyH.nil
      go_simp
      refine (HE1.out _ b06).mono ?_; rintro e w7 ⟨rfl, k7, rfl⟩; have b07 : Below w0.heap.size w0 (w6.drewN k7) := below_drewN b06 k7
      refine hK.out _ _ (by (try dsimp only); exact HS.out _ b07) (fun hHeld => ?_)
      clear hK K
      try simp only [Act.put, List.setIfInBounds_toArray, List.set_cons_zero, List.set_cons_succ]
      refine wpAnyH_take (i := 13) (oi := { dst := some 19, op := Op.pick (Operand.tmp 13) (Operand.tmp 18) (Operand.const (Value.bool false)), type := 4, pos := "state.go:50", after := #[{ on := 7, ground := Ground.data }, { on := 12, ground := Ground.data }], guard := none }) (v := ?_) rfl (by kernel_rfl) (by kernel_rfl) (by kernel_rfl) (fun _ _ _ h => h) (Or.inl ⟨by rfl, ?_⟩) (by assumption) ?_
      rotate_left
      · (intro w hSw; (try dsimp only at hSw); go_simp); (try with_reducible rfl)
      try simp only [Act.put, List.setIfInBounds_toArray, List.set_cons_zero, List.set_cons_succ]
      refine wpAnyH_take (i := 14) (oi := { dst := some 20, op := Op.move (Operand.tmp 19), type := 4, pos := "state.go:50", after := #[{ on := 13, ground := Ground.data }, { on := 12, ground := Ground.chain }], guard := none }) (v := ?_) rfl (by kernel_rfl) (by kernel_rfl) (by kernel_rfl) (fun _ _ _ h => h) (Or.inl ⟨by rfl, ?_⟩) (by assumption) ?_
      rotate_left
      · (intro w hSw; (try dsimp only at hSw); go_simp); (try with_reducible rfl)
      try simp only [Act.put, List.setIfInBounds_toArray, List.set_cons_zero, List.set_cons_succ]
      refine wpAnyH_take (i := 15) (oi := { dst := some 21, op := Op.fieldAddr 35 (Operand.tmp 2) 13, type := 0, pos := "state.go:50", after := #[{ on := 14, ground := Ground.guard }], guard := some (14, true) }) (v := undef) rfl (by kernel_rfl) (by kernel_rfl) (by kernel_rfl) (fun _ _ _ h => h) (Or.inr ⟨by rfl, rfl⟩) (by assumption) ?_
      try simp only [Act.put, List.setIfInBounds_toArray, List.set_cons_zero, List.set_cons_succ]
      refine wpAnyH_take (i := 16) (oi := { dst := some 22, op := Op.load 32 (Operand.tmp 21), type := 32, pos := "state.go:50", after := #[{ on := 15, ground := Ground.data }, { on := 14, ground := Ground.guard }], guard := some (14, true) }) (v := undef) rfl (by kernel_rfl) (by kernel_rfl) (by kernel_rfl) (fun _ _ _ h => h) (Or.inr ⟨by rfl, rfl⟩) (by assumption) ?_
      try simp only [Act.put, List.setIfInBounds_toArray, List.set_cons_zero, List.set_cons_succ]
      refine wpAnyH_take (i := 17) (oi := { dst := some 23, op := Op.fieldAddr 35 (Operand.tmp 3) 13, type := 0, pos := "state.go:50", after := #[{ on := 14, ground := Ground.guard }], guard := some (14, true) }) (v := undef) rfl (by kernel_rfl) (by kernel_rfl) (by kernel_rfl) (fun _ _ _ h => h) (Or.inr ⟨by rfl, rfl⟩) (by assumption) ?_
      try simp only [Act.put, List.setIfInBounds_toArray, List.set_cons_zero, List.set_cons_succ]
      refine wpAnyH_take (i := 18) (oi := { dst := some 24, op := Op.load 32 (Operand.tmp 23), type := 32, pos := "state.go:50", after := #[{ on := 17, ground := Ground.data }, { on := 14, ground := Ground.guard }], guard := some (14, true) }) (v := undef) rfl (by kernel_rfl) (by kernel_rfl) (by kernel_rfl) (fun _ _ _ h => h) (Or.inr ⟨by rfl, rfl⟩) (by assumption) ?_
      try simp only [Act.put, List.setIfInBounds_toArray, List.set_cons_zero, List.set_cons_succ]
      refine wpAnyH_take (i := 19) (oi := { dst := some 25, op := Op.call { callee := Callee.value (Operand.func 83), args := #[Operand.tmp 22, Operand.tmp 24], argTypes := #[32, 32] }, type := 4, pos := "state.go:50", after := #[{ on := 16, ground := Ground.data }, { on := 18, ground := Ground.data }, { on := 14, ground := Ground.chain }, { on := 14, ground := Ground.guard }], guard := some (14, true) }) (v := undef) rfl (by kernel_rfl) (by kernel_rfl) (by kernel_rfl) (fun _ _ _ h => h) (Or.inr ⟨by rfl, rfl⟩) (by assumption) ?_
      try simp only [Act.put, List.setIfInBounds_toArray, List.set_cons_zero, List.set_cons_succ]
      refine wpAnyH_take (i := 20) (oi := { dst := some 26, op := Op.pick (Operand.tmp 20) (Operand.tmp 25) (Operand.const (Value.bool false)), type := 4, pos := "state.go:50", after := #[{ on := 14, ground := Ground.data }, { on := 19, ground := Ground.data }], guard := none }) (v := ?_) rfl (by kernel_rfl) (by kernel_rfl) (by kernel_rfl) (fun _ _ _ h => h) (Or.inl ⟨by rfl, ?_⟩) (by assumption) ?_
      rotate_left
      · (intro w hSw; (try dsimp only at hSw); go_simp); (try with_reducible rfl)
      try simp only [Act.put, List.setIfInBounds_toArray, List.set_cons_zero, List.set_cons_succ]
      refine wpAnyH_take (i := 21) (oi := { dst := some 4, op := Op.assign (Operand.tmp 26), type := 4, pos := "state.go:50", after := #[{ on := 20, ground := Ground.data }, { on := 19, ground := Ground.chain }, { on := 0, ground := Ground.phase }, { on := 1, ground := Ground.phase }, { on := 2, ground := Ground.phase }, { on := 3, ground := Ground.phase }, { on := 4, ground := Ground.phase }, { on := 5, ground := Ground.phase }, { on := 6, ground := Ground.phase }, { on := 7, ground := Ground.phase }, { on := 8, ground := Ground.phase }, { on := 9, ground := Ground.phase }, { on := 10, ground := Ground.phase }, { on := 11, ground := Ground.phase }, { on := 12, ground := Ground.phase }, { on := 13, ground := Ground.phase }, { on := 14, ground := Ground.phase }, { on := 15, ground := Ground.phase }, { on := 16, ground := Ground.phase }, { on := 17, ground := Ground.phase }, { on := 18, ground := Ground.phase }, { on := 19, ground := Ground.phase }, { on := 20, ground := Ground.phase }], guard := none }) (v := ?_) rfl (by kernel_rfl) (by kernel_rfl) (by kernel_rfl) (fun _ _ _ h => h) (Or.inl ⟨by rfl, ?_⟩) (by assumption) ?_
      rotate_left
      · (intro w hSw; (try dsimp only at hSw); go_simp); (try with_reducible rfl)
      try simp only [Act.put, List.setIfInBounds_toArray, List.set_cons_zero, List.set_cons_succ]
      refine wpAnyH_done (by kernel_rfl) ?_ _
      refine NoPanic.normal ?_
      go_wp2_with fail
      go_ret
      exact ⟨rfl, bb.trans (b07.mono bb.size)⟩
    · have hRf : R = decide (s.ms = t.ms) := by rw [HR.out, hf, decide_eq_true hc]; simp
      have e1 := decide_eq_true hc
      rw [e1] at HE1
      rw [← hRf] at HE2
      clear HR hc e1 hRf hf
      refine wp_region_noPanic ?_
      refine wp_region_held_drew (S := (fun w' : World => (Hid (w'.rangeAt w.heap.size 0 ca.toList) ∧ Hid (w'.rangeAt (w.heap.size + 1) 0 cb.toList)) ∧ (w'.cell? ⟨w.heap.size, 2, none⟩ = some (.slice C s.cs.length cc) ∧ w'.cell? ⟨w.heap.size, 15, none⟩ = some (.slice M s.ms.length cm)) ∧ (w'.cell? ⟨w.heap.size + 1, 2, none⟩ = some (.slice C2 t.cs.length cc2) ∧ w'.cell? ⟨w.heap.size + 1, 15, none⟩ = some (.slice M2 t.ms.length cm2)))) (by kernel_rfl) (by (try dsimp only); exact HS.out _ b00) (fun hHeld => ?_)
      refine wpAnyH_take (i := 0) (oi := { dst := some 6, op := Op.move (Operand.tmp 5), type := 116, pos := "state.go:50", after := #[], guard := none }) (v := ?_) rfl (by kernel_rfl) (by kernel_rfl) (by kernel_rfl) (fun _ _ _ h => h) (Or.inl ⟨by rfl, ?_⟩) (by assumption) ?_
      rotate_left
      · (intro w hSw; (try dsimp only at hSw); go_simp); (try with_reducible rfl)
      try simp only [Act.put, List.setIfInBounds_toArray, List.set_cons_zero, List.set_cons_succ]
      refine wpAnyH_take (i := 1) (oi := { dst := some 7, op := Op.load 35 (Operand.tmp 2), type := 35, pos := "state.go:50", after := #[], guard := none }) (v := .agg ca) rfl (by kernel_rfl) (by kernel_rfl) (by kernel_rfl) (fun _ _ _ h => h) (Or.inl ⟨by rfl, fun w hSw => exec_lds hSw.1.1 hs16 rfl⟩) (by assumption) ?_
      try simp only [Act.put, List.setIfInBounds_toArray, List.set_cons_zero, List.set_cons_succ]
      refine wpAnyH_take (i := 3) (oi := { dst := some 9, op := Op.move (Operand.tmp 5), type := 116, pos := "state.go:50", after := #[], guard := none }) (v := ?_) rfl (by kernel_rfl) (by kernel_rfl) (by kernel_rfl) (fun _ _ _ h => h) (Or.inl ⟨by rfl, ?_⟩) (by assumption) ?_
      rotate_left
      · (intro w hSw; (try dsimp only at hSw); go_simp); (try with_reducible rfl)
      try simp only [Act.put, List.setIfInBounds_toArray, List.set_cons_zero, List.set_cons_succ]
      refine wpAnyH_take (i := 4) (oi := { dst := some 10, op := Op.load 35 (Operand.tmp 3), type := 35, pos := "state.go:50", after := #[], guard := none }) (v := .agg cb) rfl (by kernel_rfl) (by kernel_rfl) (by kernel_rfl) (fun _ _ _ h => h) (Or.inl ⟨by rfl, fun w hSw => exec_lds hSw.1.2 ht16 rfl⟩) (by assumption) ?_
      try simp only [Act.put, List.setIfInBounds_toArray, List.set_cons_zero, List.set_cons_succ]
      refine wpAnyH_ready (rs := [2]) (by kernel_rfl) (by simp) ?_
      refine AllReadyH.cons (o := { dst := some 8, op := Op.call { callee := Callee.value (Operand.tmp 6), args := #[Operand.tmp 7], argTypes := #[35] }, type := 115, pos := "state.go:50", after := #[{ on := 0, ground := Ground.data }, { on := 1, ground := Ground.data }], guard := none }) rfl (fun K hK => ?_) AllReadyH.nil
      go_simp
      refine (HF1.out _).mono ?_; rintro e w5 ⟨rfl, hb5⟩; have b05 : Below w0.heap.size w0 w5 := Below.trans b00 (hb5.mono (Nat.le_refl _))
      refine hK.out _ _ (by (try dsimp only); exact HS.out _ b05) (fun hHeld => ?_)
      clear hK K
      try simp only [Act.put, List.setIfInBounds_toArray, List.set_cons_zero, List.set_cons_succ]
      refine wpAnyH_ready (rs := [5]) (by kernel_rfl) (by simp) ?_
      refine AllReadyH.cons (o := { dst := some 11, op := Op.call { callee := Callee.value (Operand.tmp 9), args := #[Operand.tmp 10], argTypes := #[35] }, type := 115, pos := "state.go:50", after := #[{ on := 3, ground := Ground.data }, { on := 4, ground := Ground.data }, { on := 2, ground := Ground.chain }], guard := none }) rfl (fun K hK => ?_) AllReadyH.nil
      go_simp
      refine (HF2.out _).mono ?_; rintro e w6 ⟨rfl, hb6⟩; have b06 : Below w0.heap.size w0 w6 := b05.trans (hb6.mono b05.size)
      refine hK.out _ _ (by (try dsimp only); exact HS.out _ b06) (fun hHeld => ?_)
      clear hK K
      try simp only [Act.put, List.setIfInBounds_toArray, List.set_cons_zero, List.set_cons_succ]
      refine wpAnyH_take (i := 6) (oi := { dst := some 12, op := Op.binOp BinOp.eql 115 (Operand.tmp 8) (Operand.tmp 11) 115, type := 4, pos := "state.go:50", after := #[{ on := 2, ground := Ground.data }, { on := 5, ground := Ground.data }], guard := none }) (v := ?_) rfl (by kernel_rfl) (by kernel_rfl) (by kernel_rfl) (fun _ _ _ h => h) (Or.inl ⟨by rfl, ?_⟩) (by assumption) ?_
      rotate_left
      · (intro w hSw; (try dsimp only at hSw); go_simp); (try with_reducible rfl)
      try simp only [Act.put, List.setIfInBounds_toArray, List.set_cons_zero, List.set_cons_succ]
      refine wpAnyH_take (i := 7) (oi := { dst := some 13, op := Op.move (Operand.tmp 12), type := 4, pos := "state.go:50", after := #[{ on := 6, ground := Ground.data }, { on := 5, ground := Ground.chain }], guard := none }) (v := ?_) rfl (by kernel_rfl) (by kernel_rfl) (by kernel_rfl) (fun _ _ _ h => h) (Or.inl ⟨by rfl, ?_⟩) (by assumption) ?_
      rotate_left
      · (intro w hSw; (try dsimp only at hSw); go_simp); (try with_reducible rfl)
      try simp only [Act.put, List.setIfInBounds_toArray, List.set_cons_zero, List.set_cons_succ]
      refine wpAnyH_take (i := 8) (oi := { dst := some 14, op := Op.fieldAddr 35 (Operand.tmp 2) 2, type := 0, pos := "state.go:50", after := #[{ on := 7, ground := Ground.guard }], guard := some (7, true) }) (v := ?_) rfl (by kernel_rfl) (by kernel_rfl) (by kernel_rfl) (fun _ _ _ h => h) (Or.inl ⟨by rfl, ?_⟩) (by assumption) ?_
      rotate_left
      · (intro w hSw; (try dsimp only at hSw); go_simp); (try with_reducible rfl)
      try simp only [Act.put, List.setIfInBounds_toArray, List.set_cons_zero, List.set_cons_succ]
      refine wpAnyH_take (i := 9) (oi := { dst := some 15, op := Op.load 32 (Operand.tmp 14), type := 32, pos := "state.go:50", after := #[{ on := 8, ground := Ground.data }, { on := 7, ground := Ground.guard }], guard := some (7, true) }) (v := ?_) rfl (by kernel_rfl) (by kernel_rfl) (by kernel_rfl) (fun _ _ _ h => h) (Or.inl ⟨by rfl, ?_⟩) (by assumption) ?_
      rotate_left
      · (intro w hSw; (try dsimp only at hSw); go_simp); (try with_reducible rfl)
      try simp only [Act.put, List.setIfInBounds_toArray, List.set_cons_zero, List.set_cons_succ]
      refine wpAnyH_take (i := 10) (oi := { dst := some 16, op := Op.fieldAddr 35 (Operand.tmp 3) 2, type := 0, pos := "state.go:50", after := #[{ on := 7, ground := Ground.guard }], guard := some (7, true) }) (v := ?_) rfl (by kernel_rfl) (by kernel_rfl) (by kernel_rfl) (fun _ _ _ h => h) (Or.inl ⟨by rfl, ?_⟩) (by assumption) ?_
      rotate_left
      · (intro w hSw; (try dsimp only at hSw); go_simp); (try with_reducible rfl)
      try simp only [Act.put, List.setIfInBounds_toArray, List.set_cons_zero, List.set_cons_succ]
      refine wpAnyH_take (i := 11) (oi := { dst := some 17, op := Op.load 32 (Operand.tmp 16), type := 32, pos := "state.go:50", after := #[{ on := 10, ground := Ground.data }, { on := 7, ground := Ground.guard }], guard := some (7, true) }) (v := ?_) rfl (by kernel_rfl) (by kernel_rfl) (by kernel_rfl) (fun _ _ _ h => h) (Or.inl ⟨by rfl, ?_⟩) (by assumption) ?_
      rotate_left
      · (intro w hSw; (try dsimp only at hSw); go_simp); (try with_reducible rfl)
      try simp only [Act.put, List.setIfInBounds_toArray, List.set_cons_zero, List.set_cons_succ]
      refine wpAnyH_ready (rs := [12]) (by kernel_rfl) (by simp) ?_
      refine AllReadyH.cons (o := { dst := some 18, op := Op.call { callee := Callee.value (Operand.func 83), args := #[Operand.tmp 15, Operand.tmp 17], argTypes := #[32, 32] }, type := 4, pos := "state.go:50", after := #[{ on := 9, ground := Ground.data }, { on := 11, ground := Ground.data }, { on := 7, ground := Ground.chain }, { on := 7, ground := Ground.guard }], guard := some (7, true) }) rfl (fun K hK => ?_) AllReadyH.nil
      go_simp
      refine (HE1.out _ b06).mono ?_; rintro e w7 ⟨rfl, k7, rfl⟩; have b07 : Below w0.heap.size w0 (w6.drewN k7) := below_drewN b06 k7
      refine hK.out _ _ (by (try dsimp only); exact HS.out _ b07) (fun hHeld => ?_)
      clear hK K
      try simp only [Act.put, List.setIfInBounds_toArray, List.set_cons_zero, List.set_cons_succ]
      refine wpAnyH_take (i := 13) (oi := { dst := some 19, op := Op.pick (Operand.tmp 13) (Operand.tmp 18) (Operand.const (Value.bool false)), type := 4, pos := "state.go:50", after := #[{ on := 7, ground := Ground.data }, { on := 12, ground := Ground.data }], guard := none }) (v := ?_) rfl (by kernel_rfl) (by kernel_rfl) (by kernel_rfl) (fun _ _ _ h => h) (Or.inl ⟨by rfl, ?_⟩) (by assumption) ?_
      rotate_left
      · (intro w hSw; (try dsimp only at hSw); go_simp); (try with_reducible rfl)
      try simp only [Act.put, List.setIfInBounds_toArray, List.set_cons_zero, List.set_cons_succ]
      refine wpAnyH_take (i := 14) (oi := { dst := some 20, op := Op.move (Operand.tmp 19), type := 4, pos := "state.go:50", after := #[{ on := 13, ground := Ground.data }, { on := 12, ground := Ground.chain }], guard := none }) (v := ?_) rfl (by kernel_rfl) (by kernel_rfl) (by kernel_rfl) (fun _ _ _ h => h) (Or.inl ⟨by rfl, ?_⟩) (by assumption) ?_
      rotate_left
      · (intro w hSw; (try dsimp only at hSw); go_simp); (try with_reducible rfl)
      try simp only [Act.put, List.setIfInBounds_toArray, List.set_cons_zero, List.set_cons_succ]
      refine wpAnyH_take (i := 15) (oi := { dst := some 21, op := Op.fieldAddr 35 (Operand.tmp 2) 13, type := 0, pos := "state.go:50", after := #[{ on := 14, ground := Ground.guard }], guard := some (14, true) }) (v := ?_) rfl (by kernel_rfl) (by kernel_rfl) (by kernel_rfl) (fun _ _ _ h => h) (Or.inl ⟨by rfl, ?_⟩) (by assumption) ?_
      rotate_left
      · (intro w hSw; (try dsimp only at hSw); go_simp); (try with_reducible rfl)
      try simp only [Act.put, List.setIfInBounds_toArray, List.set_cons_zero, List.set_cons_succ]
      refine wpAnyH_take (i := 16) (oi := { dst := some 22, op := Op.load 32 (Operand.tmp 21), type := 32, pos := "state.go:50", after := #[{ on := 15, ground := Ground.data }, { on := 14, ground := Ground.guard }], guard := some (14, true) }) (v := ?_) rfl (by kernel_rfl) (by kernel_rfl) (by kernel_rfl) (fun _ _ _ h => h) (Or.inl ⟨by rfl, ?_⟩) (by assumption) ?_
      rotate_left
      · (intro w hSw; (try dsimp only at hSw); go_simp); (try with_reducible rfl)
      try simp only [Act.put, List.setIfInBounds_toArray, List.set_cons_zero, List.set_cons_succ]
      refine wpAnyH_take (i := 17) (oi := { dst := some 23, op := Op.fieldAddr 35 (Operand.tmp 3) 13, type := 0, pos := "state.go:50", after := #[{ on := 14, ground := Ground.guard }], guard := some (14, true) }) (v := ?_) rfl (by kernel_rfl) (by kernel_rfl) (by kernel_rfl) (fun _ _ _ h => h) (Or.inl ⟨by rfl, ?_⟩) (by assumption) ?_
      rotate_left
      · (intro w hSw; (try dsimp only at hSw); go_simp); (try with_reducible rfl)
      try simp only [Act.put, List.setIfInBounds_toArray, List.set_cons_zero, List.set_cons_succ]
      refine wpAnyH_take (i := 18) (oi := { dst := some 24, op := Op.load 32 (Operand.tmp 23), type := 32, pos := "state.go:50", after := #[{ on := 17, ground := Ground.data }, { on := 14, ground := Ground.guard }], guard := some (14, true) }) (v := ?_) rfl (by kernel_rfl) (by kernel_rfl) (by kernel_rfl) (fun _ _ _ h => h) (Or.inl ⟨by rfl, ?_⟩) (by assumption) ?_
      rotate_left
      · (intro w hSw; (try dsimp only at hSw); go_simp); (try with_reducible rfl)
      try simp only [Act.put, List.setIfInBounds_toArray, List.set_cons_zero, List.set_cons_succ]
      refine wpAnyH_ready (rs := [19]) (by kernel_rfl) (by simp) ?_
      refine AllReadyH.cons (o := { dst := some 25, op := Op.call { callee := Callee.value (Operand.func 83), args := #[Operand.tmp 22, Operand.tmp 24], argTypes := #[32, 32] }, type := 4, pos := "state.go:50", after := #[{ on := 16, ground := Ground.data }, { on := 18, ground := Ground.data }, { on := 14, ground := Ground.chain }, { on := 14, ground := Ground.guard }], guard := some (14, true) }) rfl (fun K hK => ?_) AllReadyH.nil
      go_simp
      refine (HE2.out _ b07).mono ?_; rintro e w8 ⟨rfl, k8, rfl⟩; have b08 : Below w0.heap.size w0 ((w6.drewN k7).drewN k8) := below_drewN b07 k8
      refine hK.out _ _ (by (try dsimp only); exact HS.out _ b08) (fun hHeld => ?_)
      clear hK K
      try simp only [Act.put, List.setIfInBounds_toArray, List.set_cons_zero, List.set_cons_succ]
      refine wpAnyH_take (i := 20) (oi := { dst := some 26, op := Op.pick (Operand.tmp 20) (Operand.tmp 25) (Operand.const (Value.bool false)), type := 4, pos := "state.go:50", after := #[{ on := 14, ground := Ground.data }, { on := 19, ground := Ground.data }], guard := none }) (v := ?_) rfl (by kernel_rfl) (by kernel_rfl) (by kernel_rfl) (fun _ _ _ h => h) (Or.inl ⟨by rfl, ?_⟩) (by assumption) ?_
      rotate_left
      · (intro w hSw; (try dsimp only at hSw); go_simp); (try with_reducible rfl)
      try simp only [Act.put, List.setIfInBounds_toArray, List.set_cons_zero, List.set_cons_succ]
      refine wpAnyH_take (i := 21) (oi := { dst := some 4, op := Op.assign (Operand.tmp 26), type := 4, pos := "state.go:50", after := #[{ on := 20, ground := Ground.data }, { on := 19, ground := Ground.chain }, { on := 0, ground := Ground.phase }, { on := 1, ground := Ground.phase }, { on := 2, ground := Ground.phase }, { on := 3, ground := Ground.phase }, { on := 4, ground := Ground.phase }, { on := 5, ground := Ground.phase }, { on := 6, ground := Ground.phase }, { on := 7, ground := Ground.phase }, { on := 8, ground := Ground.phase }, { on := 9, ground := Ground.phase }, { on := 10, ground := Ground.phase }, { on := 11, ground := Ground.phase }, { on := 12, ground := Ground.phase }, { on := 13, ground := Ground.phase }, { on := 14, ground := Ground.phase }, { on := 15, ground := Ground.phase }, { on := 16, ground := Ground.phase }, { on := 17, ground := Ground.phase }, { on := 18, ground := Ground.phase }, { on := 19, ground := Ground.phase }, { on := 20, ground := Ground.phase }], guard := none }) (v := ?_) rfl (by kernel_rfl) (by kernel_rfl) (by kernel_rfl) (fun _ _ _ h => h) (Or.inl ⟨by rfl, ?_⟩) (by assumption) ?_
      rotate_left
      · (intro w hSw; (try dsimp only at hSw); go_simp); (try with_reducible rfl)
      try simp only [Act.put, List.setIfInBounds_toArray, List.set_cons_zero, List.set_cons_succ]
      refine wpAnyH_done (by kernel_rfl) ?_ _
      refine NoPanic.normal ?_
      go_wp2_with fail
      go_ret
      exact ⟨rfl, bb.trans (b08.mono bb.size)⟩
end Go.Proofs.Ytfeeincglijmjaa
