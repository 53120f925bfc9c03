/- The walk of state's Push. -/
import Derived.Test.YtfeeincglijmjaaSH
import Derived.Test.YtfeeincglijmjaaSJ
import Derived.Test.YtfeeincglijmjaaEO
namespace Go.Proofs.Ytfeeincglijmjaa
open Go.RowKit
set_option linter.unusedVariables false
set_option linter.unusedSimpArgs false
attribute [local go_sem ↓] Go.wp_at_zero Go.wp_at_succ

theorem sOkF_mem : ∀ {was : Int} {l : List (Int × Scr)}, sOkF was l = true → ∀ x ∈ l, was < x.1 ∧ x.1 ≤ 4611686018427387903 ∧ gOk x.2 = true
  | _, [], _, x, hx => by cases hx
  | was, y :: l, h, x, hx => by
    simp only [sOkF, Bool.and_eq_true, decide_eq_true_eq] at h
    rcases List.mem_cons.1 hx with rfl | hx
    · exact ⟨h.1.1.1, h.1.1.2, h.1.2⟩
    · have := sOkF_mem h.2 x hx
      exact ⟨by omega, this.2⟩
theorem sCheck_parts {l : List (Int × Scr)} (h : sCheck l = true) : 0 < l.length ∧ l.length ≤ 8 ∧ ∀ x ∈ l, -1 < x.1 ∧ x.1 ≤ 4611686018427387903 ∧ gOk x.2 = true := by
  simp only [sCheck, Bool.and_eq_true, decide_eq_true_eq] at h
  exact ⟨h.2.1, h.2.2, sOkF_mem h.1⟩
theorem alike_g {lo up lo2 up2 : Nat} {s t : Scr} {C M C2 M2 : Option Addr} {cc cm cc2 cm2 : Nat} {w : World} (hat : ScrAt w lo up s C cc M cm) (hup : up ≤ w.heap.size) (hat2 : ScrAt w lo2 up2 t C2 cc2 M2 cm2) (hup2 : up2 ≤ w.heap.size) (hl : s.Len) (hl2 : t.Len) :
    Calls Try.prog 43 #[.agg (s.v C cc M cm), .agg (t.v C2 cc2 M2 cm2)] w fun e w' => e = .returned (.bool (gSame s t)) ∧ Below w.heap.size w w' :=
  alike_any hat hup hat2 hup2 hl hl2 _ (Bool.eq_iff_iff.2 (gSame_iff.trans faceEq_iff.symm))
theorem RetSh.from {w w1 w' : World} {P : List (Int × Scr)} {e : Ending} (h : RetSh w1 P e w') (b : Below w.heap.size w w1) : RetSh w P e w' := by
  obtain ⟨A, c, K, h1, h2, h3, h4, h5⟩ := h
  exact ⟨A, c, K, h1, h2, own_more h3 b.size, h4, b.trans (h5.mono b.size)⟩
theorem RetSh.nil0 (w w' : World) (h : Below w.heap.size w w') : RetSh w [] (.returned (.slice none 0 0)) w' := ⟨none, 0, [], rfl, rfl, World.ownsRow_nil _ _ _ _, (fun x hx => by cases hx), h⟩

theorem RetSx.from {w w1 w' : World} {P : List (Int × Scr)} {L L1 : Nat → Prop} {e : Ending} (h : RetSx w1 P L1 e w') (b : Below w.heap.size w w1) (hL : ∀ lo, L lo → L1 lo) : RetSx w P L e w' := by
  obtain ⟨A, c, K, h1, h2, h3, h4, h5, h6⟩ := h
  exact ⟨A, c, K, h1, h2, own_more h3 b.size, h4, b.trans (h5.mono b.size), fun lo hlo => h6 lo (hL lo hlo)⟩
theorem RetSx.nil0 (w w' : World) (L : Nat → Prop) (h : Below w.heap.size w w') : RetSx w [] L (.returned (.slice none 0 0)) w' := ⟨none, 0, [], rfl, rfl, World.ownsRow_nil _ _ _ _, (fun x hx => by cases hx), h, (fun _ _ x hx => by cases hx)⟩
/-- A shown screen is built, as an operation. -/
theorem build39x {w : World} {a : Act} {x y : Operand} {dst : Option Tmp} {ty : TypeId} {pos : String} {after : Array _} {gd : Option _} (k : Int) (s : Scr) (C : Option Addr) (cc : Nat) (M : Option Addr) (cm : Nat) (ca : Array Value) (hx : a.eval x = .int .i64 k) (hy : a.eval y = .agg ca) (hca : ca = s.v C cc M cm) :
    (execOp a.eval ⟨dst, .build 39 #[(0, x), (1, y)], ty, pos, after, gd⟩).run Try.prog w = .ok (.value (.agg (Shn.v ⟨k, s, C, cc, M, cm⟩))) w := by
  subst hca
  have := build39 k s C cc M cm w
  unfold execOp
  simp only [hx, hy, Sem.run_bind, Result.andThen_ok, Sem.run_pure, List.map_toArray, List.map_cons, List.map_nil, this]

/-- Is nothing pushed? -/
def dStill (x : Int × Scr) (s : Scr) : Bool := !gOk s || gSame x.2 s || x.1 == 4611686018427387903
/-- A server's, with another one. -/
def dPush (l : List (Int × Scr)) (s : Scr) : List (Int × Scr) :=
  if sCheck l then
    match l.getLast? with
    | some x => if dStill x s then l else dShort (l ++ [(x.1 + 1, s)])
    | none => []
  else []
theorem last_map {l : List Shn} {x : Shn} (h : l.getLast? = some x) : (l.map Shn.p).getLast? = some x.p := by rw [List.getLast?_map, h]; rfl

set_option maxHeartbeats 8000000 in
set_option maxRecDepth 100000 in
theorem push_lo {up lo2 up2 : Nat} {A : Option Addr} {n c : Nat} {l : List Shn} {s : Scr} {C M : Option Addr} {cc cm : Nat} {w : World} (hr : Shs w up A n c l) (hup : up ≤ w.heap.size) (hn : n ≤ 9223372036854775807) (hat : ScrAt w lo2 up2 s C cc M cm) (hup2 : up2 ≤ w.heap.size) (hl : s.Len) :
    Calls Try.prog 15 #[.slice A n c, .agg (s.v C cc M cm)] w (RetSx w (dPush (l.map Shn.p) s) (fun lo => lo ≤ w.heap.size)) := by
  have bb := (Below.refl w.heap.size w).alloc (Nat.le_refl _) (.cells (s.v C cc M cm) 35)
  have kA := Blk.new w 35 (s.v C cc M cm) rfl
  have hz : w.heap.size + 1 ≤ (w.alloc (.cells (s.v C cc M cm) 35)).heap.size := by simp
  have HCk := Lib.hid (fun W (b : Below w.heap.size w W) => scheck_any (hr.below b hup) (Nat.le_trans hup b.size) hn)
  have HR := Lib.hid (fun W (b : Below w.heap.size w W) => hr.below b hup)
  have HAt := Lib.hid (fun W (b : Below w.heap.size w W) => hat.below b hup2)
  have hlen := hr.len
  subst hlen
  have hs16 := Scr.v_size' s C cc M cm
  have HG := Lib.hid (fun W (b : Below w.heap.size w W) => check_any (hat.below b hup2) (Nat.le_trans hup2 b.size) hl)
  have Hl := Lib.hid hl
  have HAl := Lib.hid (fun W (b : Below w.heap.size w W) (x : Shn) (hx : x.Ok W W.heap.size) => alike_g hx.1 (Nat.le_refl _) (hat.below b hup2) (Nat.le_trans hup2 b.size) hx.2 hl)
  have HCo := Lib.hid (fun W (b : Below w.heap.size w W) (hg : gOk s = true) => copy_own (hat.below b hup2) (Nat.le_trans hup2 b.size) ⟨by have := gOk_len hg; omega, by have := gOk_len hg; omega⟩ hg)
  obtain ⟨R, hR⟩ : ∃ R, R = dPush (l.map Shn.p) s := ⟨_, rfl⟩
  rw [← hR]
  generalize s.v C cc M cm = ca at *
  clear hr hat hl
  go_enter Try.func15, Try.ntmps15
  go_upto_region 1 with fail
  generalize w.alloc (.cells ca 35) = w0 at *
  cases hck : sCheck (l.map Shn.p)
  · have hf : R = [] := by rw [hR]; unfold dPush; rw [if_neg (by rw [hck]; decide)]
    subst hf
    rw [hck] at HCk
    clear hR hck HR HAt HG Hl HAl HCo kA
    go_wp2_with fail
    refine (HCk.out _ bb).mono ?_
    rintro e w1 ⟨rfl, b1⟩
    have F := Lib.hid (RetSx.nil0 w w1 (fun lo => lo ≤ w.heap.size) (bb.trans (b1.mono bb.size)))
    go_wp2_with fail
    go_ret
    exact F.out
  rw [hck] at HCk
  go_wp2_with fail
  refine (HCk.out _ bb).mono ?_
  rintro e w1 ⟨rfl, b1⟩
  have k1 := kA.below b1 (by omega)
  have bb1 := bb.trans (b1.mono bb.size)
  clear b1 bb kA HCk
  obtain ⟨hl0, hl8, hmem⟩ := sCheck_parts hck
  rw [List.length_map] at hl0 hl8
  obtain ⟨x, hx⟩ : ∃ x, l.getLast? = some x := by
    cases h : l.getLast? with
    | none => rw [List.getLast?_eq_none_iff] at h; subst h; exact absurd hl0 (by decide)
    | some x => exact ⟨x, rfl⟩
  have hxl : x ∈ l := List.mem_of_getLast? hx
  have hok : ∀ y ∈ l, gOk y.s = true := fun y hy => (hmem y.p (List.mem_map_of_mem hy)).2.2
  have hxn := (hmem x.p (List.mem_map_of_mem hxl))
  have hxn1 : -1 < x.num := hxn.1
  have hxn2 : x.num ≤ 4611686018427387903 := hxn.2.1
  have hRR : R = (if dStill x.p s then l.map Shn.p else dShort (l.map Shn.p ++ [(x.num + 1, s)])) := by rw [hR]; unfold dPush; rw [if_pos hck, last_map hx]; rfl
  have HRR := Lib.hid hRR
  have HL := Lib.hid (fun W (b : Below w.heap.size w W) => last_any ((HR.out W b).more (Nat.le_trans hup b.size)) (Nat.le_refl _) (by omega) x hx)
  have HOw := Lib.hid (fun W (b : Below w.heap.size w W) => own_any ((HR.out W b).more (Nat.le_trans hup b.size)) (Nat.le_refl _) (by omega) hok)
  have HWi := Lib.hid (fun W (b : Below w.heap.size w W) (y : Shn) (hy : y.Ok W W.heap.size) => with_lo ((HR.out W b).more (Nat.le_trans hup b.size)) (Nat.le_refl _) hl8 hl0 hok hy)
  have HX := Lib.hid (fun W (b : Below w.heap.size w W) => ((HR.out W b).more (Nat.le_trans hup b.size)).ok x hxl)
  have HS := Lib.hid (fun W (q : Below w1.heap.size w1 W) => (show Hid (W.rangeAt w.heap.size 0 ca.toList) from Lib.hid (blk_range (k1.below q (by have := bb1.size; have := k1.lt; omega)))))
  have z1 := bb1.size
  have b00 : Below w1.heap.size w1 w1.drew := (Below.refl _ _).drew
  clear hmem hxn hok hck hR hRR hx hxl HR k1
  go_upto_region 3 with fail
  go_cut [23] (fun s23 wx => ∃ q : Bool, s23 = .bool q ∧ Hid (dStill x.p s = q) ∧ Below w1.heap.size w1 wx)
  case first => as_aux_lemma =>
    clear HRR HOw HWi HCo
    cases hg : gOk s
    · rw [hg] at HG
      simp only [Bool.false_eq_true, if_false] at HG
      have Hg := Lib.hid hg
      clear hg HL HAl
      refine wp_region_noPanic ?_
      refine wp_region_held_drew (S := (fun w' : World => Hid (w'.rangeAt w.heap.size 0 ca.toList))) (by kernel_rfl) (by (try dsimp only); exact HS.out _ b00) (fun hHeld => ?_)
      refine wpAnyH_take (i := 0) (oi := { dst := some 8, op := Op.load 35 (Operand.tmp 3), type := 35, pos := "state.go:78", after := #[], guard := none }) (v := .agg ca) rfl (by kernel_rfl) (by kernel_rfl) (by kernel_rfl) (fun _ _ _ h => h) (Or.inl ⟨by rfl, fun w hSw => exec_lds hSw hs16 rfl⟩) (by assumption) ?_
      try simp only [Act.put, List.setIfInBounds_toArray, List.set_cons_zero, List.set_cons_succ]
      refine wpAnyH_ready (rs := [1]) (by kernel_rfl) (by simp) ?_
      refine AllReadyH.cons (o := { dst := some 9, op := Op.call { callee := Callee.value (Operand.func 14), args := #[Operand.tmp 8], argTypes := #[35] }, type := 26, pos := "state.go:78", after := #[{ on := 0, ground := Ground.data }], guard := none }) rfl (fun K hK => ?_) AllReadyH.nil
      go_simp
      refine (HG.out _ (bb1.trans (b00.mono z1))).mono ?_; rintro e w5 ⟨rfl, hb5⟩; have b05 : Below w1.heap.size w1 w5 := Below.trans b00 (hb5.mono (Nat.le_refl _))
      refine hK.out _ _ (by (try dsimp only); exact HS.out _ b05) (fun hHeld => ?_)
      clear hK K
      try simp only [Act.put, List.setIfInBounds_toArray, List.set_cons_zero, List.set_cons_succ]
      refine wpAnyH_take (i := 2) (oi := { dst := some 10, op := Op.binOp BinOp.neq 26 (Operand.tmp 9) (Operand.const (Value.int IntKind.i64 0)) 26, type := 4, pos := "state.go:78", after := #[{ on := 1, ground := Ground.data }], guard := none }) (v := ?_) rfl (by kernel_rfl) (by kernel_rfl) (by kernel_rfl) (fun _ _ _ h => h) (Or.inl ⟨by rfl, ?_⟩) (by assumption) ?_
      rotate_left
      · (intro w hSw; (try dsimp only at hSw); go_simp); (try with_reducible rfl)
      try simp only [Act.put, List.setIfInBounds_toArray, List.set_cons_zero, List.set_cons_succ]
      refine wpAnyH_take (i := 3) (oi := { dst := some 11, op := Op.move (Operand.tmp 10), type := 4, pos := "state.go:78", after := #[{ on := 2, ground := Ground.data }, { on := 1, ground := Ground.chain }], guard := none }) (v := ?_) rfl (by kernel_rfl) (by kernel_rfl) (by kernel_rfl) (fun _ _ _ h => h) (Or.inl ⟨by rfl, ?_⟩) (by assumption) ?_
      rotate_left
      · (intro w hSw; (try dsimp only at hSw); go_simp); (try with_reducible rfl)
      try simp only [Act.put, List.setIfInBounds_toArray, List.set_cons_zero, List.set_cons_succ]
      refine wpAnyH_take (i := 4) (oi := { dst := some 12, op := Op.move (Operand.tmp 0), type := 25, pos := "state.go:78", after := #[{ on := 3, ground := Ground.guard }], guard := some (3, false) }) (v := undef) rfl (by kernel_rfl) (by kernel_rfl) (by kernel_rfl) (fun _ _ _ h => h) (Or.inr ⟨by rfl, rfl⟩) (by assumption) ?_
      try simp only [Act.put, List.setIfInBounds_toArray, List.set_cons_zero, List.set_cons_succ]
      refine wpAnyH_take (i := 5) (oi := { dst := some 13, op := Op.call { callee := Callee.value (Operand.func 44), args := #[Operand.tmp 12], argTypes := #[25] }, type := 39, pos := "state.go:78", after := #[{ on := 4, ground := Ground.data }, { on := 3, ground := Ground.chain }, { on := 3, ground := Ground.guard }], guard := some (3, false) }) (v := undef) rfl (by kernel_rfl) (by kernel_rfl) (by kernel_rfl) (fun _ _ _ h => h) (Or.inr ⟨by rfl, rfl⟩) (by assumption) ?_
      try simp only [Act.put, List.setIfInBounds_toArray, List.set_cons_zero, List.set_cons_succ]
      refine wpAnyH_take (i := 6) (oi := { dst := some 14, op := Op.field 39 (Operand.tmp 13) 1, type := 35, pos := "state.go:78", after := #[{ on := 5, ground := Ground.data }, { on := 3, ground := Ground.guard }], guard := some (3, false) }) (v := undef) rfl (by kernel_rfl) (by kernel_rfl) (by kernel_rfl) (fun _ _ _ h => h) (Or.inr ⟨by rfl, rfl⟩) (by assumption) ?_
      try simp only [Act.put, List.setIfInBounds_toArray, List.set_cons_zero, List.set_cons_succ]
      refine wpAnyH_take (i := 7) (oi := { dst := some 15, op := Op.load 35 (Operand.tmp 3), type := 35, pos := "state.go:78", after := #[{ on := 3, ground := Ground.guard }], guard := some (3, false) }) (v := undef) rfl (by kernel_rfl) (by kernel_rfl) (by kernel_rfl) (fun _ _ _ h => h) (Or.inr ⟨by rfl, rfl⟩) (by assumption) ?_
      try simp only [Act.put, List.setIfInBounds_toArray, List.set_cons_zero, List.set_cons_succ]
      refine wpAnyH_take (i := 8) (oi := { dst := some 16, op := Op.call { callee := Callee.value (Operand.func 43), args := #[Operand.tmp 14, Operand.tmp 15], argTypes := #[35, 35] }, type := 4, pos := "state.go:78", after := #[{ on := 6, ground := Ground.data }, { on := 7, ground := Ground.data }, { on := 5, ground := Ground.chain }, { on := 3, ground := Ground.guard }], guard := some (3, false) }) (v := undef) rfl (by kernel_rfl) (by kernel_rfl) (by kernel_rfl) (fun _ _ _ h => h) (Or.inr ⟨by rfl, rfl⟩) (by assumption) ?_
      try simp only [Act.put, List.setIfInBounds_toArray, List.set_cons_zero, List.set_cons_succ]
      refine wpAnyH_take (i := 9) (oi := { dst := some 17, op := Op.pick (Operand.tmp 11) (Operand.const (Value.bool true)) (Operand.tmp 16), type := 4, pos := "state.go:78", after := #[{ on := 3, ground := Ground.data }, { on := 8, ground := Ground.data }], guard := none }) (v := ?_) rfl (by kernel_rfl) (by kernel_rfl) (by kernel_rfl) (fun _ _ _ h => h) (Or.inl ⟨by rfl, ?_⟩) (by assumption) ?_
      rotate_left
      · (intro w hSw; (try dsimp only at hSw); go_simp); (try with_reducible rfl)
      try simp only [Act.put, List.setIfInBounds_toArray, List.set_cons_zero, List.set_cons_succ]
      refine wpAnyH_take (i := 10) (oi := { dst := some 18, op := Op.move (Operand.tmp 17), type := 4, pos := "state.go:78", after := #[{ on := 9, ground := Ground.data }, { on := 8, ground := Ground.chain }], guard := none }) (v := ?_) rfl (by kernel_rfl) (by kernel_rfl) (by kernel_rfl) (fun _ _ _ h => h) (Or.inl ⟨by rfl, ?_⟩) (by assumption) ?_
      rotate_left
      · (intro w hSw; (try dsimp only at hSw); go_simp); (try with_reducible rfl)
      try simp only [Act.put, List.setIfInBounds_toArray, List.set_cons_zero, List.set_cons_succ]
      refine wpAnyH_take (i := 11) (oi := { dst := some 19, op := Op.move (Operand.tmp 0), type := 25, pos := "state.go:78", after := #[{ on := 10, ground := Ground.guard }], guard := some (10, false) }) (v := undef) rfl (by kernel_rfl) (by kernel_rfl) (by kernel_rfl) (fun _ _ _ h => h) (Or.inr ⟨by rfl, rfl⟩) (by assumption) ?_
      try simp only [Act.put, List.setIfInBounds_toArray, List.set_cons_zero, List.set_cons_succ]
      refine wpAnyH_take (i := 12) (oi := { dst := some 20, op := Op.call { callee := Callee.value (Operand.func 44), args := #[Operand.tmp 19], argTypes := #[25] }, type := 39, pos := "state.go:78", after := #[{ on := 11, ground := Ground.data }, { on := 10, ground := Ground.chain }, { on := 10, ground := Ground.guard }], guard := some (10, false) }) (v := undef) rfl (by kernel_rfl) (by kernel_rfl) (by kernel_rfl) (fun _ _ _ h => h) (Or.inr ⟨by rfl, rfl⟩) (by assumption) ?_
      try simp only [Act.put, List.setIfInBounds_toArray, List.set_cons_zero, List.set_cons_succ]
      refine wpAnyH_take (i := 13) (oi := { dst := some 21, op := Op.field 39 (Operand.tmp 20) 0, type := 3, pos := "state.go:78", after := #[{ on := 12, ground := Ground.data }, { on := 10, ground := Ground.guard }], guard := some (10, false) }) (v := undef) rfl (by kernel_rfl) (by kernel_rfl) (by kernel_rfl) (fun _ _ _ h => h) (Or.inr ⟨by rfl, rfl⟩) (by assumption) ?_
      try simp only [Act.put, List.setIfInBounds_toArray, List.set_cons_zero, List.set_cons_succ]
      refine wpAnyH_take (i := 14) (oi := { dst := some 22, op := Op.binOp BinOp.eql 3 (Operand.tmp 21) (Operand.const (Value.int IntKind.i64 4611686018427387903)) 3, type := 4, pos := "state.go:78", after := #[{ on := 13, ground := Ground.data }, { on := 10, ground := Ground.guard }], guard := some (10, false) }) (v := undef) rfl (by kernel_rfl) (by kernel_rfl) (by kernel_rfl) (fun _ _ _ h => h) (Or.inr ⟨by rfl, rfl⟩) (by assumption) ?_
      try simp only [Act.put, List.setIfInBounds_toArray, List.set_cons_zero, List.set_cons_succ]
      refine wpAnyH_take (i := 15) (oi := { dst := some 23, op := Op.pick (Operand.tmp 18) (Operand.const (Value.bool true)) (Operand.tmp 22), type := 4, pos := "state.go:78", after := #[{ on := 10, ground := Ground.data }, { on := 14, ground := Ground.data }], guard := none }) (v := ?_) rfl (by kernel_rfl) (by kernel_rfl) (by kernel_rfl) (fun _ _ _ h => h) (Or.inl ⟨by rfl, ?_⟩) (by assumption) ?_
      rotate_left
      · (intro w hSw; (try dsimp only at hSw); go_simp); (try with_reducible rfl)
      try simp only [Act.put, List.setIfInBounds_toArray, List.set_cons_zero, List.set_cons_succ]
      refine wpAnyH_done (by kernel_rfl) ?_ _
      refine NoPanic.normal ?_
      (try go_wp2_with fail)
      go_meet
      exact ⟨true, rfl, Lib.hid (by unfold dStill; rw [Hg.out]; rfl), b05⟩
    · rw [hg] at HG
      simp only [if_true] at HG
      have Hg := Lib.hid hg
      clear hg
      have HA2 := Lib.hid (fun W b => HAl.out W b x (HX.out W b))
      clear HAl
      cases ha : gSame x.s s
      · rw [ha] at HA2
        have Ha := Lib.hid ha
        clear ha
        refine wp_region_noPanic ?_
        refine wp_region_held_drew (S := (fun w' : World => Hid (w'.rangeAt w.heap.size 0 ca.toList))) (by kernel_rfl) (by (try dsimp only); exact HS.out _ b00) (fun hHeld => ?_)
        refine wpAnyH_take (i := 0) (oi := { dst := some 8, op := Op.load 35 (Operand.tmp 3), type := 35, pos := "state.go:78", after := #[], guard := none }) (v := .agg ca) rfl (by kernel_rfl) (by kernel_rfl) (by kernel_rfl) (fun _ _ _ h => h) (Or.inl ⟨by rfl, fun w hSw => exec_lds hSw hs16 rfl⟩) (by assumption) ?_
        try simp only [Act.put, List.setIfInBounds_toArray, List.set_cons_zero, List.set_cons_succ]
        refine wpAnyH_ready (rs := [1]) (by kernel_rfl) (by simp) ?_
        refine AllReadyH.cons (o := { dst := some 9, op := Op.call { callee := Callee.value (Operand.func 14), args := #[Operand.tmp 8], argTypes := #[35] }, type := 26, pos := "state.go:78", after := #[{ on := 0, ground := Ground.data }], guard := none }) rfl (fun K hK => ?_) AllReadyH.nil
        go_simp
        refine (HG.out _ (bb1.trans (b00.mono z1))).mono ?_; rintro e w5 ⟨rfl, hb5⟩; have b05 : Below w1.heap.size w1 w5 := Below.trans b00 (hb5.mono (Nat.le_refl _))
        refine hK.out _ _ (by (try dsimp only); exact HS.out _ b05) (fun hHeld => ?_)
        clear hK K
        try simp only [Act.put, List.setIfInBounds_toArray, List.set_cons_zero, List.set_cons_succ]
        refine wpAnyH_take (i := 2) (oi := { dst := some 10, op := Op.binOp BinOp.neq 26 (Operand.tmp 9) (Operand.const (Value.int IntKind.i64 0)) 26, type := 4, pos := "state.go:78", after := #[{ on := 1, ground := Ground.data }], guard := none }) (v := ?_) rfl (by kernel_rfl) (by kernel_rfl) (by kernel_rfl) (fun _ _ _ h => h) (Or.inl ⟨by rfl, ?_⟩) (by assumption) ?_
        rotate_left
        · (intro w hSw; (try dsimp only at hSw); go_simp); (try with_reducible rfl)
        try simp only [Act.put, List.setIfInBounds_toArray, List.set_cons_zero, List.set_cons_succ]
        refine wpAnyH_take (i := 3) (oi := { dst := some 11, op := Op.move (Operand.tmp 10), type := 4, pos := "state.go:78", after := #[{ on := 2, ground := Ground.data }, { on := 1, ground := Ground.chain }], guard := none }) (v := ?_) rfl (by kernel_rfl) (by kernel_rfl) (by kernel_rfl) (fun _ _ _ h => h) (Or.inl ⟨by rfl, ?_⟩) (by assumption) ?_
        rotate_left
        · (intro w hSw; (try dsimp only at hSw); go_simp); (try with_reducible rfl)
        try simp only [Act.put, List.setIfInBounds_toArray, List.set_cons_zero, List.set_cons_succ]
        refine wpAnyH_take (i := 4) (oi := { dst := some 12, op := Op.move (Operand.tmp 0), type := 25, pos := "state.go:78", after := #[{ on := 3, ground := Ground.guard }], guard := some (3, false) }) (v := ?_) rfl (by kernel_rfl) (by kernel_rfl) (by kernel_rfl) (fun _ _ _ h => h) (Or.inl ⟨by rfl, ?_⟩) (by assumption) ?_
        rotate_left
        · (intro w hSw; (try dsimp only at hSw); go_simp); (try with_reducible rfl)
        try simp only [Act.put, List.setIfInBounds_toArray, List.set_cons_zero, List.set_cons_succ]
        refine wpAnyH_take (i := 7) (oi := { dst := some 15, op := Op.load 35 (Operand.tmp 3), type := 35, pos := "state.go:78", after := #[{ on := 3, ground := Ground.guard }], guard := some (3, false) }) (v := .agg ca) rfl (by kernel_rfl) (by kernel_rfl) (by kernel_rfl) (fun _ _ _ h => h) (Or.inl ⟨by rfl, fun w hSw => exec_lds hSw hs16 rfl⟩) (by assumption) ?_
        try simp only [Act.put, List.setIfInBounds_toArray, List.set_cons_zero, List.set_cons_succ]
        refine wpAnyH_ready (rs := [5]) (by kernel_rfl) (by simp) ?_
        refine AllReadyH.cons (o := { dst := some 13, op := Op.call { callee := Callee.value (Operand.func 44), args := #[Operand.tmp 12], argTypes := #[25] }, type := 39, pos := "state.go:78", after := #[{ on := 4, ground := Ground.data }, { on := 3, ground := Ground.chain }, { on := 3, ground := Ground.guard }], guard := some (3, false) }) rfl (fun K hK => ?_) AllReadyH.nil
        go_simp
        refine (HL.out _ (bb1.trans (b05.mono z1))).mono ?_; rintro e w6 ⟨rfl, hb6⟩; have b06 : Below w1.heap.size w1 w6 := b05.trans (hb6.mono b05.size)
        refine hK.out _ _ (by (try dsimp only); exact HS.out _ b06) (fun hHeld => ?_)
        clear hK K
        try simp only [Act.put, List.setIfInBounds_toArray, List.set_cons_zero, List.set_cons_succ]
        refine wpAnyH_take (i := 6) (oi := { dst := some 14, op := Op.field 39 (Operand.tmp 13) 1, type := 35, pos := "state.go:78", after := #[{ on := 5, ground := Ground.data }, { on := 3, ground := Ground.guard }], guard := some (3, false) }) (v := .agg (x.s.v x.C x.cc x.M x.cm)) rfl (by kernel_rfl) (by kernel_rfl) (by kernel_rfl) (fun _ _ _ h => h) (Or.inl ⟨by rfl, fun w hSw => by kernel_rfl⟩) (by assumption) ?_
        try simp only [Act.put, List.setIfInBounds_toArray, List.set_cons_zero, List.set_cons_succ]
        refine wpAnyH_ready (rs := [8]) (by kernel_rfl) (by simp) ?_
        refine AllReadyH.cons (o := { dst := some 16, op := Op.call { callee := Callee.value (Operand.func 43), args := #[Operand.tmp 14, Operand.tmp 15], argTypes := #[35, 35] }, type := 4, pos := "state.go:78", after := #[{ on := 6, ground := Ground.data }, { on := 7, ground := Ground.data }, { on := 5, ground := Ground.chain }, { on := 3, ground := Ground.guard }], guard := some (3, false) }) rfl (fun K hK => ?_) AllReadyH.nil
        go_simp
        refine (HA2.out _ (bb1.trans (b06.mono z1))).mono ?_; rintro e w7 ⟨rfl, hb7⟩; have b07 : Below w1.heap.size w1 w7 := b06.trans (hb7.mono b06.size)
        refine hK.out _ _ (by (try dsimp only); exact HS.out _ b07) (fun hHeld => ?_)
        clear hK K
        try simp only [Act.put, List.setIfInBounds_toArray, List.set_cons_zero, List.set_cons_succ]
        refine wpAnyH_take (i := 9) (oi := { dst := some 17, op := Op.pick (Operand.tmp 11) (Operand.const (Value.bool true)) (Operand.tmp 16), type := 4, pos := "state.go:78", after := #[{ on := 3, ground := Ground.data }, { on := 8, ground := Ground.data }], guard := none }) (v := ?_) rfl (by kernel_rfl) (by kernel_rfl) (by kernel_rfl) (fun _ _ _ h => h) (Or.inl ⟨by rfl, ?_⟩) (by assumption) ?_
        rotate_left
        · (intro w hSw; (try dsimp only at hSw); go_simp); (try with_reducible rfl)
        try simp only [Act.put, List.setIfInBounds_toArray, List.set_cons_zero, List.set_cons_succ]
        refine wpAnyH_take (i := 10) (oi := { dst := some 18, op := Op.move (Operand.tmp 17), type := 4, pos := "state.go:78", after := #[{ on := 9, ground := Ground.data }, { on := 8, ground := Ground.chain }], guard := none }) (v := ?_) rfl (by kernel_rfl) (by kernel_rfl) (by kernel_rfl) (fun _ _ _ h => h) (Or.inl ⟨by rfl, ?_⟩) (by assumption) ?_
        rotate_left
        · (intro w hSw; (try dsimp only at hSw); go_simp); (try with_reducible rfl)
        try simp only [Act.put, List.setIfInBounds_toArray, List.set_cons_zero, List.set_cons_succ]
        refine wpAnyH_take (i := 11) (oi := { dst := some 19, op := Op.move (Operand.tmp 0), type := 25, pos := "state.go:78", after := #[{ on := 10, ground := Ground.guard }], guard := some (10, false) }) (v := ?_) rfl (by kernel_rfl) (by kernel_rfl) (by kernel_rfl) (fun _ _ _ h => h) (Or.inl ⟨by rfl, ?_⟩) (by assumption) ?_
        rotate_left
        · (intro w hSw; (try dsimp only at hSw); go_simp); (try with_reducible rfl)
        try simp only [Act.put, List.setIfInBounds_toArray, List.set_cons_zero, List.set_cons_succ]
        refine wpAnyH_ready (rs := [12]) (by kernel_rfl) (by simp) ?_
        refine AllReadyH.cons (o := { dst := some 20, op := Op.call { callee := Callee.value (Operand.func 44), args := #[Operand.tmp 19], argTypes := #[25] }, type := 39, pos := "state.go:78", after := #[{ on := 11, ground := Ground.data }, { on := 10, ground := Ground.chain }, { on := 10, ground := Ground.guard }], guard := some (10, false) }) rfl (fun K hK => ?_) AllReadyH.nil
        go_simp
        refine (HL.out _ (bb1.trans (b07.mono z1))).mono ?_; rintro e w8 ⟨rfl, hb8⟩; have b08 : Below w1.heap.size w1 w8 := b07.trans (hb8.mono b07.size)
        refine hK.out _ _ (by (try dsimp only); exact HS.out _ b08) (fun hHeld => ?_)
        clear hK K
        try simp only [Act.put, List.setIfInBounds_toArray, List.set_cons_zero, List.set_cons_succ]
        refine wpAnyH_take (i := 13) (oi := { dst := some 21, op := Op.field 39 (Operand.tmp 20) 0, type := 3, pos := "state.go:78", after := #[{ on := 12, ground := Ground.data }, { on := 10, ground := Ground.guard }], guard := some (10, false) }) (v := .int .i64 x.num) rfl (by kernel_rfl) (by kernel_rfl) (by kernel_rfl) (fun _ _ _ h => h) (Or.inl ⟨by rfl, fun w hSw => by kernel_rfl⟩) (by assumption) ?_
        try simp only [Act.put, List.setIfInBounds_toArray, List.set_cons_zero, List.set_cons_succ]
        refine wpAnyH_take (i := 14) (oi := { dst := some 22, op := Op.binOp BinOp.eql 3 (Operand.tmp 21) (Operand.const (Value.int IntKind.i64 4611686018427387903)) 3, type := 4, pos := "state.go:78", after := #[{ on := 13, ground := Ground.data }, { on := 10, ground := Ground.guard }], guard := some (10, false) }) (v := .bool (x.num == 4611686018427387903)) rfl (by kernel_rfl) (by kernel_rfl) (by kernel_rfl) (fun _ _ _ h => h) (Or.inl ⟨by rfl, fun w hSw => by kernel_rfl⟩) (by assumption) ?_
        try simp only [Act.put, List.setIfInBounds_toArray, List.set_cons_zero, List.set_cons_succ]
        refine wpAnyH_take (i := 15) (oi := { dst := some 23, op := Op.pick (Operand.tmp 18) (Operand.const (Value.bool true)) (Operand.tmp 22), type := 4, pos := "state.go:78", after := #[{ on := 10, ground := Ground.data }, { on := 14, ground := Ground.data }], guard := none }) (v := ?_) rfl (by kernel_rfl) (by kernel_rfl) (by kernel_rfl) (fun _ _ _ h => h) (Or.inl ⟨by rfl, ?_⟩) (by assumption) ?_
        rotate_left
        · (intro w hSw; (try dsimp only at hSw); go_simp); (try with_reducible rfl)
        try simp only [Act.put, List.setIfInBounds_toArray, List.set_cons_zero, List.set_cons_succ]
        refine wpAnyH_done (by kernel_rfl) ?_ _
        refine NoPanic.normal ?_
        (try go_wp2_with fail)
        go_meet
        exact ⟨_, rfl, Lib.hid (by unfold dStill; rw [Hg.out]; rw [show gSame x.p.2 s = false from Ha.out]; rfl), b08⟩
      · rw [ha] at HA2
        have Ha := Lib.hid ha
        clear ha
        refine wp_region_noPanic ?_
        refine wp_region_held_drew (S := (fun w' : World => Hid (w'.rangeAt w.heap.size 0 ca.toList))) (by kernel_rfl) (by (try dsimp only); exact HS.out _ b00) (fun hHeld => ?_)
        refine wpAnyH_take (i := 0) (oi := { dst := some 8, op := Op.load 35 (Operand.tmp 3), type := 35, pos := "state.go:78", after := #[], guard := none }) (v := .agg ca) rfl (by kernel_rfl) (by kernel_rfl) (by kernel_rfl) (fun _ _ _ h => h) (Or.inl ⟨by rfl, fun w hSw => exec_lds hSw hs16 rfl⟩) (by assumption) ?_
        try simp only [Act.put, List.setIfInBounds_toArray, List.set_cons_zero, List.set_cons_succ]
        refine wpAnyH_ready (rs := [1]) (by kernel_rfl) (by simp) ?_
        refine AllReadyH.cons (o := { dst := some 9, op := Op.call { callee := Callee.value (Operand.func 14), args := #[Operand.tmp 8], argTypes := #[35] }, type := 26, pos := "state.go:78", after := #[{ on := 0, ground := Ground.data }], guard := none }) rfl (fun K hK => ?_) AllReadyH.nil
        go_simp
        refine (HG.out _ (bb1.trans (b00.mono z1))).mono ?_; rintro e w5 ⟨rfl, hb5⟩; have b05 : Below w1.heap.size w1 w5 := Below.trans b00 (hb5.mono (Nat.le_refl _))
        refine hK.out _ _ (by (try dsimp only); exact HS.out _ b05) (fun hHeld => ?_)
        clear hK K
        try simp only [Act.put, List.setIfInBounds_toArray, List.set_cons_zero, List.set_cons_succ]
        refine wpAnyH_take (i := 2) (oi := { dst := some 10, op := Op.binOp BinOp.neq 26 (Operand.tmp 9) (Operand.const (Value.int IntKind.i64 0)) 26, type := 4, pos := "state.go:78", after := #[{ on := 1, ground := Ground.data }], guard := none }) (v := ?_) rfl (by kernel_rfl) (by kernel_rfl) (by kernel_rfl) (fun _ _ _ h => h) (Or.inl ⟨by rfl, ?_⟩) (by assumption) ?_
        rotate_left
        · (intro w hSw; (try dsimp only at hSw); go_simp); (try with_reducible rfl)
        try simp only [Act.put, List.setIfInBounds_toArray, List.set_cons_zero, List.set_cons_succ]
        refine wpAnyH_take (i := 3) (oi := { dst := some 11, op := Op.move (Operand.tmp 10), type := 4, pos := "state.go:78", after := #[{ on := 2, ground := Ground.data }, { on := 1, ground := Ground.chain }], guard := none }) (v := ?_) rfl (by kernel_rfl) (by kernel_rfl) (by kernel_rfl) (fun _ _ _ h => h) (Or.inl ⟨by rfl, ?_⟩) (by assumption) ?_
        rotate_left
        · (intro w hSw; (try dsimp only at hSw); go_simp); (try with_reducible rfl)
        try simp only [Act.put, List.setIfInBounds_toArray, List.set_cons_zero, List.set_cons_succ]
        refine wpAnyH_take (i := 4) (oi := { dst := some 12, op := Op.move (Operand.tmp 0), type := 25, pos := "state.go:78", after := #[{ on := 3, ground := Ground.guard }], guard := some (3, false) }) (v := ?_) rfl (by kernel_rfl) (by kernel_rfl) (by kernel_rfl) (fun _ _ _ h => h) (Or.inl ⟨by rfl, ?_⟩) (by assumption) ?_
        rotate_left
        · (intro w hSw; (try dsimp only at hSw); go_simp); (try with_reducible rfl)
        try simp only [Act.put, List.setIfInBounds_toArray, List.set_cons_zero, List.set_cons_succ]
        refine wpAnyH_take (i := 7) (oi := { dst := some 15, op := Op.load 35 (Operand.tmp 3), type := 35, pos := "state.go:78", after := #[{ on := 3, ground := Ground.guard }], guard := some (3, false) }) (v := .agg ca) rfl (by kernel_rfl) (by kernel_rfl) (by kernel_rfl) (fun _ _ _ h => h) (Or.inl ⟨by rfl, fun w hSw => exec_lds hSw hs16 rfl⟩) (by assumption) ?_
        try simp only [Act.put, List.setIfInBounds_toArray, List.set_cons_zero, List.set_cons_succ]
        refine wpAnyH_ready (rs := [5]) (by kernel_rfl) (by simp) ?_
        refine AllReadyH.cons (o := { dst := some 13, op := Op.call { callee := Callee.value (Operand.func 44), args := #[Operand.tmp 12], argTypes := #[25] }, type := 39, pos := "state.go:78", after := #[{ on := 4, ground := Ground.data }, { on := 3, ground := Ground.chain }, { on := 3, ground := Ground.guard }], guard := some (3, false) }) rfl (fun K hK => ?_) AllReadyH.nil
        go_simp
        refine (HL.out _ (bb1.trans (b05.mono z1))).mono ?_; rintro e w6 ⟨rfl, hb6⟩; have b06 : Below w1.heap.size w1 w6 := b05.trans (hb6.mono b05.size)
        refine hK.out _ _ (by (try dsimp only); exact HS.out _ b06) (fun hHeld => ?_)
        clear hK K
        try simp only [Act.put, List.setIfInBounds_toArray, List.set_cons_zero, List.set_cons_succ]
        refine wpAnyH_take (i := 6) (oi := { dst := some 14, op := Op.field 39 (Operand.tmp 13) 1, type := 35, pos := "state.go:78", after := #[{ on := 5, ground := Ground.data }, { on := 3, ground := Ground.guard }], guard := some (3, false) }) (v := .agg (x.s.v x.C x.cc x.M x.cm)) rfl (by kernel_rfl) (by kernel_rfl) (by kernel_rfl) (fun _ _ _ h => h) (Or.inl ⟨by rfl, fun w hSw => by kernel_rfl⟩) (by assumption) ?_
        try simp only [Act.put, List.setIfInBounds_toArray, List.set_cons_zero, List.set_cons_succ]
        refine wpAnyH_ready (rs := [8]) (by kernel_rfl) (by simp) ?_
        refine AllReadyH.cons (o := { dst := some 16, op := Op.call { callee := Callee.value (Operand.func 43), args := #[Operand.tmp 14, Operand.tmp 15], argTypes := #[35, 35] }, type := 4, pos := "state.go:78", after := #[{ on := 6, ground := Ground.data }, { on := 7, ground := Ground.data }, { on := 5, ground := Ground.chain }, { on := 3, ground := Ground.guard }], guard := some (3, false) }) rfl (fun K hK => ?_) AllReadyH.nil
        go_simp
        refine (HA2.out _ (bb1.trans (b06.mono z1))).mono ?_; rintro e w7 ⟨rfl, hb7⟩; have b07 : Below w1.heap.size w1 w7 := b06.trans (hb7.mono b06.size)
        refine hK.out _ _ (by (try dsimp only); exact HS.out _ b07) (fun hHeld => ?_)
        clear hK K
        try simp only [Act.put, List.setIfInBounds_toArray, List.set_cons_zero, List.set_cons_succ]
        refine wpAnyH_take (i := 9) (oi := { dst := some 17, op := Op.pick (Operand.tmp 11) (Operand.const (Value.bool true)) (Operand.tmp 16), type := 4, pos := "state.go:78", after := #[{ on := 3, ground := Ground.data }, { on := 8, ground := Ground.data }], guard := none }) (v := ?_) rfl (by kernel_rfl) (by kernel_rfl) (by kernel_rfl) (fun _ _ _ h => h) (Or.inl ⟨by rfl, ?_⟩) (by assumption) ?_
        rotate_left
        · (intro w hSw; (try dsimp only at hSw); go_simp); (try with_reducible rfl)
        try simp only [Act.put, List.setIfInBounds_toArray, List.set_cons_zero, List.set_cons_succ]
        refine wpAnyH_take (i := 10) (oi := { dst := some 18, op := Op.move (Operand.tmp 17), type := 4, pos := "state.go:78", after := #[{ on := 9, ground := Ground.data }, { on := 8, ground := Ground.chain }], guard := none }) (v := ?_) rfl (by kernel_rfl) (by kernel_rfl) (by kernel_rfl) (fun _ _ _ h => h) (Or.inl ⟨by rfl, ?_⟩) (by assumption) ?_
        rotate_left
        · (intro w hSw; (try dsimp only at hSw); go_simp); (try with_reducible rfl)
        try simp only [Act.put, List.setIfInBounds_toArray, List.set_cons_zero, List.set_cons_succ]
        refine wpAnyH_take (i := 11) (oi := { dst := some 19, op := Op.move (Operand.tmp 0), type := 25, pos := "state.go:78", after := #[{ on := 10, ground := Ground.guard }], guard := some (10, false) }) (v := undef) rfl (by kernel_rfl) (by kernel_rfl) (by kernel_rfl) (fun _ _ _ h => h) (Or.inr ⟨by rfl, rfl⟩) (by assumption) ?_
        try simp only [Act.put, List.setIfInBounds_toArray, List.set_cons_zero, List.set_cons_succ]
        refine wpAnyH_take (i := 12) (oi := { dst := some 20, op := Op.call { callee := Callee.value (Operand.func 44), args := #[Operand.tmp 19], argTypes := #[25] }, type := 39, pos := "state.go:78", after := #[{ on := 11, ground := Ground.data }, { on := 10, ground := Ground.chain }, { on := 10, ground := Ground.guard }], guard := some (10, false) }) (v := undef) rfl (by kernel_rfl) (by kernel_rfl) (by kernel_rfl) (fun _ _ _ h => h) (Or.inr ⟨by rfl, rfl⟩) (by assumption) ?_
        try simp only [Act.put, List.setIfInBounds_toArray, List.set_cons_zero, List.set_cons_succ]
        refine wpAnyH_take (i := 13) (oi := { dst := some 21, op := Op.field 39 (Operand.tmp 20) 0, type := 3, pos := "state.go:78", after := #[{ on := 12, ground := Ground.data }, { on := 10, ground := Ground.guard }], guard := some (10, false) }) (v := undef) rfl (by kernel_rfl) (by kernel_rfl) (by kernel_rfl) (fun _ _ _ h => h) (Or.inr ⟨by rfl, rfl⟩) (by assumption) ?_
        try simp only [Act.put, List.setIfInBounds_toArray, List.set_cons_zero, List.set_cons_succ]
        refine wpAnyH_take (i := 14) (oi := { dst := some 22, op := Op.binOp BinOp.eql 3 (Operand.tmp 21) (Operand.const (Value.int IntKind.i64 4611686018427387903)) 3, type := 4, pos := "state.go:78", after := #[{ on := 13, ground := Ground.data }, { on := 10, ground := Ground.guard }], guard := some (10, false) }) (v := undef) rfl (by kernel_rfl) (by kernel_rfl) (by kernel_rfl) (fun _ _ _ h => h) (Or.inr ⟨by rfl, rfl⟩) (by assumption) ?_
        try simp only [Act.put, List.setIfInBounds_toArray, List.set_cons_zero, List.set_cons_succ]
        refine wpAnyH_take (i := 15) (oi := { dst := some 23, op := Op.pick (Operand.tmp 18) (Operand.const (Value.bool true)) (Operand.tmp 22), type := 4, pos := "state.go:78", after := #[{ on := 10, ground := Ground.data }, { on := 14, ground := Ground.data }], guard := none }) (v := ?_) rfl (by kernel_rfl) (by kernel_rfl) (by kernel_rfl) (fun _ _ _ h => h) (Or.inl ⟨by rfl, ?_⟩) (by assumption) ?_
        rotate_left
        · (intro w hSw; (try dsimp only at hSw); go_simp); (try with_reducible rfl)
        try simp only [Act.put, List.setIfInBounds_toArray, List.set_cons_zero, List.set_cons_succ]
        refine wpAnyH_done (by kernel_rfl) ?_ _
        refine NoPanic.normal ?_
        (try go_wp2_with fail)
        go_meet
        exact ⟨true, rfl, Lib.hid (by unfold dStill; rw [Hg.out]; rw [show gSame x.p.2 s = true from Ha.out]; rfl), b07⟩
  case rest => as_aux_lemma =>
    rename_i wx
    obtain ⟨q, rfl, hq, b8⟩ := hcut
    have bb8 := bb1.trans (b8.mono z1)
    clear HAl HX b00 HG
    cases q
    · have hg : gOk s = true := by
        have := hq.out
        simp only [dStill, Bool.or_eq_false_iff, Bool.not_eq_eq_eq_not, Bool.not_false] at this
        exact this.1.1
      have F := Lib.hid (fun w7 w9 e (y : Shn) (b : Below w.heap.size w w7) (hy : ∀ lo, lo ≤ w.heap.size → y.Lo w7 lo) (h : RetSx w7 (dShort (l.map Shn.p ++ [(x.num + 1, s)])) (fun lo => lo ≤ w7.heap.size ∧ y.Lo w7 lo) e w9) => (show RetSx w R (fun lo => lo ≤ w.heap.size) e w9 by
        have e2 := HRR.out
        rw [hq.out] at e2
        rw [e2]
        exact h.from b (fun lo h1 => ⟨Nat.le_trans h1 b.size, hy lo h1⟩)))
      have HC2 := Lib.hid (fun W b => HCo.out W b hg)
      have b00 := b8.drew
      have hwr : IntKind.i64.wrap (x.num + 1) = x.num + 1 := IntWalk.i64_in _ (by omega)
      clear HCo hg hq HRR HOw
      go_upto_region 5 with fail
      refine wp_region_noPanic ?_
      refine wp_region_held_drew (S := (fun w' : World => Hid (w'.rangeAt w.heap.size 0 ca.toList))) (by kernel_rfl) (by (try dsimp only); exact HS.out _ b00) (fun hHeld => ?_)
      refine wpAnyH_take (i := 0) (oi := { dst := some 26, op := Op.move (Operand.tmp 0), type := 25, pos := "state.go:81", after := #[], guard := none }) (v := ?_) rfl (by kernel_rfl) (by kernel_rfl) (by kernel_rfl) (fun _ _ _ h => h) (Or.inl ⟨by rfl, ?_⟩) (by assumption) ?_
      rotate_left
      · (intro w hSw; (try dsimp only at hSw); go_simp); (try with_reducible rfl)
      try simp only [Act.put, List.setIfInBounds_toArray, List.set_cons_zero, List.set_cons_succ]
      refine wpAnyH_take (i := 1) (oi := { dst := some 27, op := Op.move (Operand.tmp 0), type := 25, pos := "state.go:81", after := #[], guard := none }) (v := ?_) rfl (by kernel_rfl) (by kernel_rfl) (by kernel_rfl) (fun _ _ _ h => h) (Or.inl ⟨by rfl, ?_⟩) (by assumption) ?_
      rotate_left
      · (intro w hSw; (try dsimp only at hSw); go_simp); (try with_reducible rfl)
      try simp only [Act.put, List.setIfInBounds_toArray, List.set_cons_zero, List.set_cons_succ]
      refine wpAnyH_take (i := 5) (oi := { dst := some 31, op := Op.load 35 (Operand.tmp 3), type := 35, pos := "state.go:81", after := #[], guard := none }) (v := .agg ca) rfl (by kernel_rfl) (by kernel_rfl) (by kernel_rfl) (fun _ _ _ h => h) (Or.inl ⟨by rfl, fun w hSw => exec_lds hSw hs16 rfl⟩) (by assumption) ?_
      try simp only [Act.put, List.setIfInBounds_toArray, List.set_cons_zero, List.set_cons_succ]
      refine wpAnyH_ready (rs := [2]) (by kernel_rfl) (by simp) ?_
      refine AllReadyH.cons (o := { dst := some 28, op := Op.call { callee := Callee.value (Operand.func 44), args := #[Operand.tmp 27], argTypes := #[25] }, type := 39, pos := "state.go:81", after := #[{ on := 1, ground := Ground.data }], guard := none }) rfl (fun K hK => ?_) AllReadyH.nil
      go_simp
      refine (HL.out _ (bb1.trans (b00.mono z1))).mono ?_; rintro e w5 ⟨rfl, hb5⟩; have b05 : Below w1.heap.size w1 w5 := b00.trans (hb5.mono b00.size)
      refine hK.out _ _ (by (try dsimp only); exact HS.out _ b05) (fun hHeld => ?_)
      clear hK K
      try simp only [Act.put, List.setIfInBounds_toArray, List.set_cons_zero, List.set_cons_succ]
      refine wpAnyH_take (i := 3) (oi := { dst := some 29, op := Op.field 39 (Operand.tmp 28) 0, type := 3, pos := "state.go:81", after := #[{ on := 2, ground := Ground.data }], guard := none }) (v := .int .i64 x.num) rfl (by kernel_rfl) (by kernel_rfl) (by kernel_rfl) (fun _ _ _ h => h) (Or.inl ⟨by rfl, fun w hSw => by kernel_rfl⟩) (by assumption) ?_
      try simp only [Act.put, List.setIfInBounds_toArray, List.set_cons_zero, List.set_cons_succ]
      refine wpAnyH_take (i := 4) (oi := { dst := some 30, op := Op.binOp BinOp.add 3 (Operand.tmp 29) (Operand.const (Value.int IntKind.i64 1)) 3, type := 3, pos := "state.go:81", after := #[{ on := 3, ground := Ground.data }], guard := none }) (v := ?_) rfl (by kernel_rfl) (by kernel_rfl) (by kernel_rfl) (fun _ _ _ h => h) (Or.inl ⟨by rfl, ?_⟩) (by assumption) ?_
      rotate_left
      · (intro w hSw; (try dsimp only at hSw); go_simp); (try with_reducible rfl)
      try simp only [Act.put, List.setIfInBounds_toArray, List.set_cons_zero, List.set_cons_succ]
      refine wpAnyH_ready (rs := [6]) (by kernel_rfl) (by simp) ?_
      refine AllReadyH.cons (o := { dst := some 32, op := Op.call { callee := Callee.value (Operand.func 29), args := #[Operand.tmp 31], argTypes := #[35] }, type := 35, pos := "state.go:81", after := #[{ on := 5, ground := Ground.data }, { on := 2, ground := Ground.chain }], guard := none }) rfl (fun K hK => ?_) AllReadyH.nil
      go_simp
      refine (HC2.out _ (bb1.trans (b05.mono z1))).mono ?_; rintro e w6 ⟨C6, cc6, M6, cm6, rfl, oC6, oM6, hb6⟩; have b06 : Below w1.heap.size w1 w6 := b05.trans (hb6.mono b05.size); have y6 : Shn.Ok w6 w6.heap.size ⟨x.num + 1, s, C6, cc6, M6, cm6⟩ := ⟨⟨(Sl.of_own oC6).more (Nat.zero_le _) (Nat.le_refl _), (Sl.of_own oM6).more (Nat.zero_le _) (Nat.le_refl _)⟩, Hl.out⟩; have yl6 : ∀ lo, lo ≤ w.heap.size → Shn.Lo w6 lo ⟨x.num + 1, s, C6, cc6, M6, cm6⟩ := (fun lo hlo => (ScrAt.own' oC6 oM6).more (Nat.le_trans hlo (Nat.le_trans z1 b05.size)) (Nat.le_refl _)); clear oC6 oM6
      refine hK.out _ _ (by (try dsimp only); exact HS.out _ b06) (fun hHeld => ?_)
      clear hK K
      try simp only [Act.put, List.setIfInBounds_toArray, List.set_cons_zero, List.set_cons_succ]
      refine wpAnyH_take (i := 7) (oi := { dst := some 33, op := Op.build 39 #[(0, Operand.tmp 30), (1, Operand.tmp 32)], type := 39, pos := "state.go:81", after := #[{ on := 4, ground := Ground.data }, { on := 6, ground := Ground.data }], guard := none }) (v := .agg (Shn.v ⟨x.num + 1, s, C6, cc6, M6, cm6⟩)) rfl (by kernel_rfl) (by kernel_rfl) (by kernel_rfl) (fun _ _ _ h => h) (Or.inl ⟨by rfl, fun w hSw => build39x _ _ _ _ _ _ _ rfl rfl rfl⟩) (by assumption) ?_
      try simp only [Act.put, List.setIfInBounds_toArray, List.set_cons_zero, List.set_cons_succ]
      refine wpAnyH_ready (rs := [8]) (by kernel_rfl) (by simp) ?_
      refine AllReadyH.cons (o := { dst := some 34, op := Op.call { callee := Callee.value (Operand.func 46), args := #[Operand.tmp 26, Operand.tmp 33], argTypes := #[25, 39] }, type := 25, pos := "state.go:81", after := #[{ on := 0, ground := Ground.data }, { on := 7, ground := Ground.data }, { on := 6, ground := Ground.chain }], guard := none }) rfl (fun K hK => ?_) AllReadyH.nil
      go_simp
      refine (HWi.out _ (bb1.trans (b06.mono z1)) _ y6).mono ?_; rintro e w7 h7; have F7 := Lib.hid (F.out _ _ _ _ (bb1.trans (b06.mono z1)) yl6 h7); obtain ⟨A7, c7, K7, rfl, -, -, -, hb7, -⟩ := h7; have b07 : Below w1.heap.size w1 w7 := b06.trans (hb7.mono b06.size)
      refine hK.out _ _ (by (try dsimp only); exact HS.out _ b07) (fun hHeld => ?_)
      clear hK K
      try simp only [Act.put, List.setIfInBounds_toArray, List.set_cons_zero, List.set_cons_succ]
      refine wpAnyH_take (i := 9) (oi := { dst := some 4, op := Op.assign (Operand.tmp 34), type := 25, pos := "state.go:81", after := #[{ on := 8, ground := Ground.data }, { on := 8, ground := Ground.chain }, { on := 0, ground := Ground.phase }, { on := 1, ground := Ground.phase }, { on := 2, ground := Ground.phase }, { on := 3, ground := Ground.phase }, { on := 4, ground := Ground.phase }, { on := 5, ground := Ground.phase }, { on := 6, ground := Ground.phase }, { on := 7, ground := Ground.phase }, { on := 8, ground := Ground.phase }], guard := none }) (v := ?_) rfl (by kernel_rfl) (by kernel_rfl) (by kernel_rfl) (fun _ _ _ h => h) (Or.inl ⟨by rfl, ?_⟩) (by assumption) ?_
      rotate_left
      · (intro w hSw; (try dsimp only at hSw); go_simp); (try with_reducible rfl)
      try simp only [Act.put, List.setIfInBounds_toArray, List.set_cons_zero, List.set_cons_succ]
      refine wpAnyH_done (by kernel_rfl) ?_ _
      refine NoPanic.normal ?_
      go_wp2_with fail
      go_ret
      exact F7.out
    · have F := Lib.hid (fun w7 w9 e (b : Below w.heap.size w w7) (h : RetOw w7 (l.map Shn.p) e w9) => (show RetSx w R (fun lo => lo ≤ w.heap.size) e w9 by
        have e2 := HRR.out
        rw [hq.out] at e2
        rw [e2]
        exact (h.sx (L := fun lo => lo ≤ w.heap.size) (fun lo h => Nat.le_trans h b.size)).from b (fun lo h => h)))
      clear HCo hq HRR HWi HL HS
      go_wp2_with fail
      refine (HOw.out _ bb8).mono ?_
      rintro e w9 h9
      have F9 := Lib.hid (F.out _ _ _ bb8 h9)
      obtain ⟨A9, c9, K9, rfl, -⟩ := h9
      clear F HOw
      go_wp2_with fail
      go_ret
      exact F9.out
theorem push_any {up lo2 up2 : Nat} {A : Option Addr} {n c : Nat} {l : List Shn} {s : Scr} {C M : Option Addr} {cc cm : Nat} {w : World} (hr : Shs w up A n c l) (hup : up ≤ w.heap.size) (hn : n ≤ 9223372036854775807) (hat : ScrAt w lo2 up2 s C cc M cm) (hup2 : up2 ≤ w.heap.size) (hl : s.Len) :
    Calls Try.prog 15 #[.slice A n c, .agg (s.v C cc M cm)] w (RetSh w (dPush (l.map Shn.p) s)) :=
  (push_lo hr hup hn hat hup2 hl).mono fun e w' h => h.sh
end Go.Proofs.Ytfeeincglijmjaa
