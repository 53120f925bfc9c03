/- The walk of state's Make. -/
import Derived.Test.YtfeeincglijmjaaSM
import Derived.Test.YtfeeincglijmjaaZB8
import Derived.Test.YtfeeincglijmjaaZB14
namespace Go.Proofs.Ytfeeincglijmjaa
open Go.RowKit
set_option linter.unusedVariables false
set_option linter.unusedSimpArgs false
attribute [local go_sem ↓] Go.wp_at_zero Go.wp_at_succ

theorem results_tmp4 {fn : Func} {t u v x : Tmp} (h : fn.results = #[.tmp t, .tmp u, .tmp v, .tmp x]) (tmps : Array Value) (P : Program) (w : World) :
    (results fn tmps).run P w = .ok (.tuple #[tmps.getD t undef, tmps.getD u undef, tmps.getD v undef, tmps.getD x undef]) w := by
  simp [results, h]
theorem sdiff_ok {s t : Scr} (h1 : gOk s = true) (h2 : gOk t = true) : dDiff' s t = (vCat (dNums s t), 0) := by
  unfold dDiff'
  rw [h1, h2]
  exact vJoin_ok (fun x hx => by have := nums_bnd (s := s) h2 x hx; omega)
theorem sdiff_len {s t : Scr} (h1 : gOk s = true) (h2 : gOk t = true) : (dDiff' s t).1.length ≤ 1000000 := by
  rw [sdiff_ok h1 h2]
  have e0 := vCat_le (dNums s t)
  have e1 := chg_size (dGround s t.W t.H).1 t.cs
  have e2 := chg_size (dGround s t.W t.H).2 t.ms
  have e3 := gOk_len h2
  have e4 : (dNums s t).length ≤ 100000 := by
    unfold dNums dHead
    simp only [List.length_append, List.length_cons, List.length_nil]
    split <;> (try simp only [List.length_nil]) <;> omega
  show (vCat (dNums s t)).length ≤ 1000000
  omega
/-- What a client is told. -/
def dMake (l : List (Int × Scr)) (z : Int) : Int × Int × List (List UInt8) × Bool :=
  if sCheck l = true ∧ l.length ≠ 1 then
    match l.head?, l.getLast? with
    | some x, some y => (x.1, y.1, cParts (dDiff' x.2 y.2).1 z, true)
    | _, _ => (0, 0, [], false)
  else (0, 0, [], false)
/-- What Make hands back. -/
def RetMk (w : World) (q : Int × Int × List (List UInt8) × Bool) (e : Ending) (w' : World) : Prop :=
  ∃ A c vs, e = .returned (.tuple #[.int .i64 q.1, .int .i64 q.2.1, .slice A q.2.2.1.length c, .bool q.2.2.2]) ∧ w'.ownsRow w.heap.size 23 1 (.slice A q.2.2.1.length c) q.2.2.1.length vs ∧ Bs w' w.heap.size vs q.2.2.1 ∧ Below w.heap.size w w'
theorem RetMk.nil0 {w w' : World} (h : Below w.heap.size w w') : RetMk w (0, 0, [], false) (.returned (.tuple #[.int .i64 0, .int .i64 0, .slice none 0 0, .bool false])) w' := ⟨none, 0, [], rfl, World.ownsRow_nil _ _ _ _, Bs.nil _ _, h⟩

set_option maxHeartbeats 8000000 in
set_option maxRecDepth 100000 in
theorem make_any {up : Nat} {A : Option Addr} {n c : Nat} {l : List Shn} {z : Int} {w : World} (hr : Shs w up A n c l) (hup : up ≤ w.heap.size) (hn : n ≤ 9223372036854775807) :
    Calls Try.prog 16 #[.slice A n c, .int .i64 z] w (RetMk w (dMake (l.map Shn.p) z)) := by
  have HCk := Lib.hid (scheck_any hr hup hn)
  have hlen := hr.len
  subst hlen
  by_cases hno : sCheck (l.map Shn.p) = true ∧ l.length ≠ 1
  rotate_left
  · have hf : dMake (l.map Shn.p) z = (0, 0, [], false) := by unfold dMake; rw [if_neg (by rw [List.length_map]; exact hno)]
    rw [hf]
    cases hck : sCheck (l.map Shn.p)
    · rw [hck] at HCk
      clear hf hck hr hno
      go_enter Try.func16, Try.ntmps16
      go_wp2_with fail
      refine HCk.out.mono ?_
      rintro e w1 ⟨rfl, b1⟩
      have F := Lib.hid (RetMk.nil0 b1)
      go_wp2_with fail
      (try simp only [Exit.inBlock, Exit.then])
      refine bodyPost_ret (results_tmp4 rfl _ _ _) rfl ?_
      exact F.out
    · rw [hck] at HCk
      have h1 : l.length = 1 := by
        rcases Nat.decEq l.length 1 with h | h
        · exact absurd ⟨hck, h⟩ hno
        · exact h
      have h1I : (l.length : Int) = 1 := by omega
      clear hf hck hr hno
      rw [h1] at HCk ⊢
      go_enter Try.func16, Try.ntmps16
      go_wp2_with fail
      refine HCk.out.mono ?_
      rintro e w1 ⟨rfl, b1⟩
      have F := Lib.hid (RetMk.nil0 b1)
      go_wp2_with fail
      (try simp only [Exit.inBlock, Exit.then])
      refine bodyPost_ret (results_tmp4 rfl _ _ _) rfl ?_
      exact F.out
  obtain ⟨hck, hl1⟩ := hno
  obtain ⟨hl0, hl8, hmem⟩ := sCheck_parts hck
  rw [List.length_map] at hl0 hl8
  obtain ⟨x, hx⟩ : ∃ x, l.getLast? = some x := by
    cases h : l.getLast? with
    | none => rw [List.getLast?_eq_none_iff] at h; subst h; exact absurd hl0 (by decide)
    | some x => exact ⟨x, rfl⟩
  obtain ⟨y, hy⟩ : ∃ y, l.head? = some y := by
    cases h : l.head? with
    | none => rw [List.head?_eq_none_iff] at h; subst h; exact absurd hl0 (by decide)
    | some x => exact ⟨x, rfl⟩
  have hxl : x ∈ l := List.mem_of_getLast? hx
  have hyl : y ∈ l := List.mem_of_head? hy
  have hgx : gOk x.s = true := (hmem x.p (List.mem_map_of_mem hxl)).2.2
  have hgy : gOk y.s = true := (hmem y.p (List.mem_map_of_mem hyl)).2.2
  have hy0 : l[0] = y := by
    cases l with
    | nil => cases hy
    | cons a r => injection hy
  have hf : dMake (l.map Shn.p) z = (y.num, x.num, cParts (dDiff' y.s x.s).1 z, true) := by
    unfold dMake
    rw [if_pos ⟨hck, by rw [List.length_map]; exact hl1⟩, last_map hx, List.head?_map, hy]
    rfl
  rw [hf]
  obtain ⟨b, o, rfl, hbu, hc⟩ := hr.cell hl0
  have hc0 := hc 0 hl0
  rw [hy0, Nat.zero_mul, Nat.add_zero] at hc0
  have HL := Lib.hid (fun W (q : Below w.heap.size w W) => last_any ((hr.below q hup).more (Nat.le_trans hup q.size)) (Nat.le_refl _) (by omega) x hx)
  have HD := Lib.hid (fun W (q : Below w.heap.size w W) => (show Calls Try.prog 25 #[.agg (y.s.v y.C y.cc y.M y.cm), .agg (x.s.v x.C x.cc x.M x.cm)] W (RetBE W (dDiff' y.s x.s).1 0) by
    have h1 := (hr.below q hup).ok y hyl
    have h2 := (hr.below q hup).ok x hxl
    have := diff_any h1.1 (Nat.le_trans hup q.size) h2.1 (Nat.le_trans hup q.size) h1.2 h2.2
    rw [show (dDiff' y.s x.s).2 = 0 by rw [sdiff_ok hgy hgx]] at this
    exact this))
  have hdl := sdiff_len hgy hgx
  have HS := Lib.hid (fun W (q : Below w.heap.size w W) => (show Hid (W.rangeAt b (o + 1) (y.s.v y.C y.cc y.M y.cm).toList) ∧ W.cell? ⟨b, o, none⟩ = some (.int .i64 y.num) from
    ⟨Lib.hid (range_tail (range_below hc0 q (by omega))), range_num (range_below hc0 q (by omega))⟩))
  rw [hck] at HCk
  have hs16 := Scr.v_size' y.s y.C y.cc y.M y.cm
  have hl0I : (0 : Int) < (l.length : Int) := by omega
  have hl1I : ¬ ((l.length : Int) = 1) := by omega
  have hl1b : ((l.length : Int) == 1) = false := by simp; omega
  have hl1d : decide ((l.length : Int) = 1) = false := by simp; omega
  have ab0 := addr_add b o 0
  have ab1 := addr_add b o 1
  generalize hdd : (dDiff' y.s x.s).1 = d at *
  clear hr hf hck hmem hgx hgy hxl hyl hx hy hy0 hc hc0 hdd
  generalize y.s.v y.C y.cc y.M y.cm = cy at *
  go_enter Try.func16, Try.ntmps16
  go_wp2_with fail
  refine HCk.out.mono ?_
  rintro e w1 ⟨rfl, b1⟩
  have b00 := b1.drew
  clear HCk
  go_upto_region 3 with fail
  refine wp_region_noPanic ?_
  refine wp_region_held_drew (S := (fun w' : World => Hid (w'.rangeAt b (o + 1) cy.toList) ∧ w'.cell? ⟨b, o, none⟩ = some (.int .i64 y.num))) (by kernel_rfl) (by (try dsimp only); exact HS.out _ b00) (fun hHeld => ?_)
  refine wpAnyH_take (i := 0) (oi := { dst := some 19, op := Op.move (Operand.tmp 0), type := 25, pos := "state.go:102", after := #[], guard := none }) (v := ?_) rfl (by kernel_rfl) (by kernel_rfl) (by kernel_rfl) (fun _ _ _ h => h) (Or.inl ⟨by rfl, ?_⟩) (by assumption) ?_
  rotate_left
  · (intro w hSw; (try dsimp only at hSw); go_simp); (try with_reducible rfl)
  try simp only [Act.put, List.setIfInBounds_toArray, List.set_cons_zero, List.set_cons_succ]
  refine wpAnyH_take (i := 1) (oi := { dst := some 20, op := Op.indexAddr 25 (Operand.tmp 19) (Operand.const (Value.int IntKind.i64 0)), type := 0, pos := "state.go:102", after := #[{ on := 0, ground := Ground.data }], guard := none }) (v := ?_) rfl (by kernel_rfl) (by kernel_rfl) (by kernel_rfl) (fun _ _ _ h => h) (Or.inl ⟨by rfl, ?_⟩) (by assumption) ?_
  rotate_left
  · (intro w hSw; (try dsimp only at hSw); go_simp); (try with_reducible rfl)
  try simp only [Act.put, List.setIfInBounds_toArray, List.set_cons_zero, List.set_cons_succ]
  refine wpAnyH_take (i := 2) (oi := { dst := some 21, op := Op.fieldAddr 39 (Operand.tmp 20) 1, type := 0, pos := "state.go:102", after := #[{ on := 1, ground := Ground.data }], guard := none }) (v := ?_) rfl (by kernel_rfl) (by kernel_rfl) (by kernel_rfl) (fun _ _ _ h => h) (Or.inl ⟨by rfl, ?_⟩) (by assumption) ?_
  rotate_left
  · (intro w hSw; (try dsimp only at hSw); go_simp); (try with_reducible rfl)
  try simp only [Act.put, List.setIfInBounds_toArray, List.set_cons_zero, List.set_cons_succ]
  refine wpAnyH_take (i := 3) (oi := { dst := some 22, op := Op.load 35 (Operand.tmp 21), type := 35, pos := "state.go:102", after := #[{ on := 2, ground := Ground.data }], guard := none }) (v := .agg cy) rfl (by kernel_rfl) (by kernel_rfl) (by kernel_rfl) (fun _ _ _ h => h) (Or.inl ⟨by rfl, fun w hSw => exec_lds hSw.1 hs16 rfl⟩) (by assumption) ?_
  try simp only [Act.put, List.setIfInBounds_toArray, List.set_cons_zero, List.set_cons_succ]
  refine wpAnyH_take (i := 4) (oi := { dst := some 23, op := Op.move (Operand.tmp 0), type := 25, pos := "state.go:102", after := #[], guard := none }) (v := ?_) rfl (by kernel_rfl) (by kernel_rfl) (by kernel_rfl) (fun _ _ _ h => h) (Or.inl ⟨by rfl, ?_⟩) (by assumption) ?_
  rotate_left
  · (intro w hSw; (try dsimp only at hSw); go_simp); (try with_reducible rfl)
  try simp only [Act.put, List.setIfInBounds_toArray, List.set_cons_zero, List.set_cons_succ]
  refine wpAnyH_ready (rs := [5]) (by kernel_rfl) (by simp) ?_
  refine AllReadyH.cons (o := { dst := some 24, op := Op.call { callee := Callee.value (Operand.func 44), args := #[Operand.tmp 23], argTypes := #[25] }, type := 39, pos := "state.go:102", after := #[{ on := 4, ground := Ground.data }], guard := none }) rfl (fun K hK => ?_) AllReadyH.nil
  go_simp
  refine (HL.out _ b00).mono ?_; rintro e w5 ⟨rfl, hb5⟩; have b05 : Below w.heap.size w w5 := b00.trans (hb5.mono b00.size)
  refine hK.out _ _ (by (try dsimp only); exact HS.out _ b05) (fun hHeld => ?_)
  clear hK K
  try simp only [Act.put, List.setIfInBounds_toArray, List.set_cons_zero, List.set_cons_succ]
  refine wpAnyH_take (i := 6) (oi := { dst := some 25, op := Op.field 39 (Operand.tmp 24) 1, type := 35, pos := "state.go:102", after := #[{ on := 5, ground := Ground.data }], guard := none }) (v := .agg (x.s.v x.C x.cc x.M x.cm)) rfl (by kernel_rfl) (by kernel_rfl) (by kernel_rfl) (fun _ _ _ h => h) (Or.inl ⟨by rfl, fun w hSw => by kernel_rfl⟩) (by assumption) ?_
  try simp only [Act.put, List.setIfInBounds_toArray, List.set_cons_zero, List.set_cons_succ]
  refine wpAnyH_ready (rs := [7]) (by kernel_rfl) (by simp) ?_
  refine AllReadyH.cons (o := { dst := some 26, op := Op.call { callee := Callee.value (Operand.func 25), args := #[Operand.tmp 22, Operand.tmp 25], argTypes := #[35, 35] }, type := 54, pos := "state.go:102", after := #[{ on := 3, ground := Ground.data }, { on := 6, ground := Ground.data }, { on := 5, ground := Ground.chain }], guard := none }) rfl (fun K hK => ?_) AllReadyH.nil
  go_simp
  refine (HD.out _ b05).mono ?_; rintro e w6 ⟨A6, c6, rfl, o6, hb6⟩; have b06 : Below w.heap.size w w6 := b05.trans (hb6.mono b05.size)
  refine hK.out _ _ (by (try dsimp only); exact HS.out _ b06) (fun hHeld => ?_)
  clear hK K
  try simp only [Act.put, List.setIfInBounds_toArray, List.set_cons_zero, List.set_cons_succ]
  refine wpAnyH_take (i := 8) (oi := { dst := some 18, op := Op.move (Operand.tmp 26), type := 54, pos := "state.go:102", after := #[{ on := 7, ground := Ground.data }], guard := none }) (v := ?_) rfl (by kernel_rfl) (by kernel_rfl) (by kernel_rfl) (fun _ _ _ h => h) (Or.inl ⟨by rfl, ?_⟩) (by assumption) ?_
  rotate_left
  · (intro w hSw; (try dsimp only at hSw); go_simp); (try with_reducible rfl)
  try simp only [Act.put, List.setIfInBounds_toArray, List.set_cons_zero, List.set_cons_succ]
  refine wpAnyH_take (i := 9) (oi := { dst := some 27, op := Op.extract (Operand.tmp 18) 0, type := 23, pos := "state.go:102", after := #[{ on := 8, ground := Ground.data }], guard := none }) (v := ?_) rfl (by kernel_rfl) (by kernel_rfl) (by kernel_rfl) (fun _ _ _ h => h) (Or.inl ⟨by rfl, ?_⟩) (by assumption) ?_
  rotate_left
  · (intro w hSw; (try dsimp only at hSw); go_simp); (try with_reducible rfl)
  try simp only [Act.put, List.setIfInBounds_toArray, List.set_cons_zero, List.set_cons_succ]
  refine wpAnyH_take (i := 10) (oi := { dst := some 28, op := Op.extract (Operand.tmp 18) 1, type := 26, pos := "state.go:102", after := #[{ on := 8, ground := Ground.data }, { on := 11, ground := Ground.gcOnly Departure.lateStores }], guard := none }) (v := ?_) rfl (by kernel_rfl) (by kernel_rfl) (by kernel_rfl) (fun _ _ _ h => h) (Or.inl ⟨by rfl, ?_⟩) (by assumption) ?_
  rotate_left
  · (intro w hSw; (try dsimp only at hSw); go_simp); (try with_reducible rfl)
  try simp only [Act.put, List.setIfInBounds_toArray, List.set_cons_zero, List.set_cons_succ]
  refine wpAnyH_take (i := 11) (oi := { dst := some 8, op := Op.assign (Operand.tmp 27), type := 23, pos := "state.go:102", after := #[{ on := 9, ground := Ground.data }, { on := 7, ground := Ground.chain }, { on := 0, ground := Ground.phase }, { on := 1, ground := Ground.phase }, { on := 2, ground := Ground.phase }, { on := 3, ground := Ground.phase }, { on := 4, ground := Ground.phase }, { on := 5, ground := Ground.phase }, { on := 6, ground := Ground.phase }, { on := 7, ground := Ground.phase }, { on := 8, ground := Ground.phase }, { on := 9, ground := Ground.phase }, { on := 10, ground := Ground.textOnly Departure.lateStores }], guard := none }) (v := ?_) rfl (by kernel_rfl) (by kernel_rfl) (by kernel_rfl) (fun _ _ _ h => h) (Or.inl ⟨by rfl, ?_⟩) (by assumption) ?_
  rotate_left
  · (intro w hSw; (try dsimp only at hSw); go_simp); (try with_reducible rfl)
  try simp only [Act.put, List.setIfInBounds_toArray, List.set_cons_zero, List.set_cons_succ]
  refine wpAnyH_take (i := 12) (oi := { dst := some 9, op := Op.assign (Operand.tmp 28), type := 26, pos := "state.go:102", after := #[{ on := 10, ground := Ground.data }, { on := 11, ground := Ground.chain }, { on := 0, ground := Ground.phase }, { on := 1, ground := Ground.phase }, { on := 2, ground := Ground.phase }, { on := 3, ground := Ground.phase }, { on := 4, ground := Ground.phase }, { on := 5, ground := Ground.phase }, { on := 6, ground := Ground.phase }, { on := 7, ground := Ground.phase }, { on := 8, ground := Ground.phase }, { on := 9, ground := Ground.phase }, { on := 10, ground := Ground.phase }, { on := 11, ground := Ground.phase }], guard := none }) (v := ?_) rfl (by kernel_rfl) (by kernel_rfl) (by kernel_rfl) (fun _ _ _ h => h) (Or.inl ⟨by rfl, ?_⟩) (by assumption) ?_
  rotate_left
  · (intro w hSw; (try dsimp only at hSw); go_simp); (try with_reducible rfl)
  try simp only [Act.put, List.setIfInBounds_toArray, List.set_cons_zero, List.set_cons_succ]
  refine wpAnyH_done (by kernel_rfl) ?_ _
  refine NoPanic.normal ?_
  clear HD
  have HL2 := HL
  clear HL
  have b06' := b06
  go_upto_region 6 with fail
  have b07 := b06.drew
  refine wp_region_noPanic ?_
  refine wp_region_held_drew (S := (fun w' : World => Hid (w'.rangeAt b (o + 1) cy.toList) ∧ w'.cell? ⟨b, o, none⟩ = some (.int .i64 y.num))) (by kernel_rfl) (by (try dsimp only); exact HS.out _ b07) (fun hHeld => ?_)
  refine wpAnyH_take (i := 0) (oi := { dst := some 31, op := Op.move (Operand.tmp 0), type := 25, pos := "state.go:106", after := #[], guard := none }) (v := ?_) rfl (by kernel_rfl) (by kernel_rfl) (by kernel_rfl) (fun _ _ _ h => h) (Or.inl ⟨by rfl, ?_⟩) (by assumption) ?_
  rotate_left
  · (intro w hSw; (try dsimp only at hSw); go_simp); (try with_reducible rfl)
  try simp only [Act.put, List.setIfInBounds_toArray, List.set_cons_zero, List.set_cons_succ]
  refine wpAnyH_take (i := 1) (oi := { dst := some 32, op := Op.indexAddr 25 (Operand.tmp 31) (Operand.const (Value.int IntKind.i64 0)), type := 0, pos := "state.go:106", after := #[{ on := 0, ground := Ground.data }], guard := none }) (v := ?_) rfl (by kernel_rfl) (by kernel_rfl) (by kernel_rfl) (fun _ _ _ h => h) (Or.inl ⟨by rfl, ?_⟩) (by assumption) ?_
  rotate_left
  · (intro w hSw; (try dsimp only at hSw); go_simp); (try with_reducible rfl)
  try simp only [Act.put, List.setIfInBounds_toArray, List.set_cons_zero, List.set_cons_succ]
  refine wpAnyH_take (i := 2) (oi := { dst := some 33, op := Op.fieldAddr 39 (Operand.tmp 32) 0, type := 0, pos := "state.go:106", after := #[{ on := 1, ground := Ground.data }], guard := none }) (v := ?_) rfl (by kernel_rfl) (by kernel_rfl) (by kernel_rfl) (fun _ _ _ h => h) (Or.inl ⟨by rfl, ?_⟩) (by assumption) ?_
  rotate_left
  · (intro w hSw; (try dsimp only at hSw); go_simp); (try with_reducible rfl)
  try simp only [Act.put, List.setIfInBounds_toArray, List.set_cons_zero, List.set_cons_succ]
  refine wpAnyH_take (i := 3) (oi := { dst := some 34, op := Op.load 3 (Operand.tmp 33), type := 3, pos := "state.go:106", after := #[{ on := 2, ground := Ground.data }], guard := none }) (v := ?_) rfl (by kernel_rfl) (by kernel_rfl) (by kernel_rfl) (fun _ _ _ h => h) (Or.inl ⟨by rfl, ?_⟩) (by assumption) ?_
  rotate_left
  · (intro w hSw; (try dsimp only at hSw); go_simp); (try with_reducible rfl)
  try simp only [Act.put, List.setIfInBounds_toArray, List.set_cons_zero, List.set_cons_succ]
  refine wpAnyH_take (i := 4) (oi := { dst := some 35, op := Op.move (Operand.tmp 0), type := 25, pos := "state.go:106", after := #[], guard := none }) (v := ?_) rfl (by kernel_rfl) (by kernel_rfl) (by kernel_rfl) (fun _ _ _ h => h) (Or.inl ⟨by rfl, ?_⟩) (by assumption) ?_
  rotate_left
  · (intro w hSw; (try dsimp only at hSw); go_simp); (try with_reducible rfl)
  try simp only [Act.put, List.setIfInBounds_toArray, List.set_cons_zero, List.set_cons_succ]
  refine wpAnyH_take (i := 7) (oi := { dst := some 38, op := Op.move (Operand.tmp 8), type := 23, pos := "state.go:106", after := #[], guard := none }) (v := ?_) rfl (by kernel_rfl) (by kernel_rfl) (by kernel_rfl) (fun _ _ _ h => h) (Or.inl ⟨by rfl, ?_⟩) (by assumption) ?_
  rotate_left
  · (intro w hSw; (try dsimp only at hSw); go_simp); (try with_reducible rfl)
  try simp only [Act.put, List.setIfInBounds_toArray, List.set_cons_zero, List.set_cons_succ]
  refine wpAnyH_take (i := 8) (oi := { dst := some 39, op := Op.move (Operand.tmp 1), type := 3, pos := "state.go:106", after := #[], guard := none }) (v := ?_) rfl (by kernel_rfl) (by kernel_rfl) (by kernel_rfl) (fun _ _ _ h => h) (Or.inl ⟨by rfl, ?_⟩) (by assumption) ?_
  rotate_left
  · (intro w hSw; (try dsimp only at hSw); go_simp); (try with_reducible rfl)
  try simp only [Act.put, List.setIfInBounds_toArray, List.set_cons_zero, List.set_cons_succ]
  refine wpAnyH_ready (rs := [5]) (by kernel_rfl) (by simp) ?_
  refine AllReadyH.cons (o := { dst := some 36, op := Op.call { callee := Callee.value (Operand.func 44), args := #[Operand.tmp 35], argTypes := #[25] }, type := 39, pos := "state.go:106", after := #[{ on := 4, ground := Ground.data }], guard := none }) rfl (fun K hK => ?_) AllReadyH.nil
  go_simp
  refine (HL2.out _ b07).mono ?_; rintro e w8 ⟨rfl, hb8⟩; have b08 : Below w.heap.size w w8 := b07.trans (hb8.mono b07.size)
  refine hK.out _ _ (by (try dsimp only); exact HS.out _ b08) (fun hHeld => ?_)
  clear hK K
  try simp only [Act.put, List.setIfInBounds_toArray, List.set_cons_zero, List.set_cons_succ]
  refine wpAnyH_take (i := 6) (oi := { dst := some 37, op := Op.field 39 (Operand.tmp 36) 0, type := 3, pos := "state.go:106", after := #[{ on := 5, ground := Ground.data }, { on := 10, ground := Ground.gcOnly Departure.lateStores }], guard := none }) (v := .int .i64 x.num) rfl (by kernel_rfl) (by kernel_rfl) (by kernel_rfl) (fun _ _ _ h => h) (Or.inl ⟨by rfl, fun w hSw => by kernel_rfl⟩) (by assumption) ?_
  try simp only [Act.put, List.setIfInBounds_toArray, List.set_cons_zero, List.set_cons_succ]
  refine wpAnyH_ready (rs := [9]) (by kernel_rfl) (by simp) ?_
  refine AllReadyH.cons (o := { dst := some 40, op := Op.call { callee := Callee.value (Operand.func 22), args := #[Operand.tmp 38, Operand.tmp 39], argTypes := #[23, 3] }, type := 29, pos := "state.go:106", after := #[{ on := 7, ground := Ground.data }, { on := 8, ground := Ground.data }, { on := 5, ground := Ground.chain }], guard := none }) rfl (fun K hK => ?_) AllReadyH.nil
  go_simp
  refine (cut_any (z := z) ((Sl.of_own o6).drew.below hb8 (Nat.le_refl _)) hb8.size hdl).mono ?_; rintro e w9 ⟨A9, c9, vs9, rfl, o9, bs9, hb9⟩; have b09 : Below w.heap.size w w9 := b08.trans (hb9.mono b08.size); have F := Lib.hid (show RetMk w (y.num, x.num, cParts d z, true) (.returned (.tuple #[.int .i64 y.num, .int .i64 x.num, .slice A9 (cParts d z).length c9, .bool true])) w9 from ⟨A9, c9, vs9, rfl, own_more o9 b08.size, bs9.more b08.size, b09⟩)
  refine hK.out _ _ (by (try dsimp only); exact HS.out _ b09) (fun hHeld => ?_)
  clear hK K
  try simp only [Act.put, List.setIfInBounds_toArray, List.set_cons_zero, List.set_cons_succ]
  refine wpAnyH_take (i := 10) (oi := { dst := some 4, op := Op.assign (Operand.tmp 34), type := 3, pos := "state.go:106", after := #[{ on := 3, ground := Ground.data }, { on := 9, ground := Ground.chain }, { on := 0, ground := Ground.phase }, { on := 1, ground := Ground.phase }, { on := 2, ground := Ground.phase }, { on := 3, ground := Ground.phase }, { on := 4, ground := Ground.textOnly Departure.lateStores }, { on := 5, ground := Ground.textOnly Departure.lateStoresUnsure }, { on := 6, ground := Ground.textOnly Departure.lateStores }, { on := 7, ground := Ground.textOnly Departure.lateStores }, { on := 8, ground := Ground.textOnly Departure.lateStores }, { on := 9, ground := Ground.textOnly Departure.lateStoresUnsure }], guard := none }) (v := ?_) rfl (by kernel_rfl) (by kernel_rfl) (by kernel_rfl) (fun _ _ _ h => h) (Or.inl ⟨by rfl, ?_⟩) (by assumption) ?_
  rotate_left
  · (intro w hSw; (try dsimp only at hSw); go_simp); (try with_reducible rfl)
  try simp only [Act.put, List.setIfInBounds_toArray, List.set_cons_zero, List.set_cons_succ]
  refine wpAnyH_take (i := 11) (oi := { dst := some 5, op := Op.assign (Operand.tmp 37), type := 3, pos := "state.go:106", after := #[{ on := 6, ground := Ground.data }, { on := 10, ground := Ground.chain }, { on := 0, ground := Ground.phase }, { on := 1, ground := Ground.phase }, { on := 2, ground := Ground.phase }, { on := 3, ground := Ground.phase }, { on := 4, ground := Ground.phase }, { on := 5, ground := Ground.phase }, { on := 6, ground := Ground.phase }, { on := 7, ground := Ground.textOnly Departure.lateStores }, { on := 8, ground := Ground.textOnly Departure.lateStores }, { on := 9, ground := Ground.textOnly Departure.lateStoresUnsure }, { on := 10, ground := Ground.phase }], guard := none }) (v := ?_) rfl (by kernel_rfl) (by kernel_rfl) (by kernel_rfl) (fun _ _ _ h => h) (Or.inl ⟨by rfl, ?_⟩) (by assumption) ?_
  rotate_left
  · (intro w hSw; (try dsimp only at hSw); go_simp); (try with_reducible rfl)
  try simp only [Act.put, List.setIfInBounds_toArray, List.set_cons_zero, List.set_cons_succ]
  refine wpAnyH_take (i := 12) (oi := { dst := some 6, op := Op.assign (Operand.tmp 40), type := 29, pos := "state.go:106", after := #[{ on := 9, ground := Ground.data }, { on := 11, ground := Ground.chain }, { on := 0, ground := Ground.phase }, { on := 1, ground := Ground.phase }, { on := 2, ground := Ground.phase }, { on := 3, ground := Ground.phase }, { on := 4, ground := Ground.phase }, { on := 5, ground := Ground.phase }, { on := 6, ground := Ground.phase }, { on := 7, ground := Ground.phase }, { on := 8, ground := Ground.phase }, { on := 9, ground := Ground.phase }, { on := 10, ground := Ground.phase }, { on := 11, ground := Ground.phase }], guard := none }) (v := ?_) rfl (by kernel_rfl) (by kernel_rfl) (by kernel_rfl) (fun _ _ _ h => h) (Or.inl ⟨by rfl, ?_⟩) (by assumption) ?_
  rotate_left
  · (intro w hSw; (try dsimp only at hSw); go_simp); (try with_reducible rfl)
  try simp only [Act.put, List.setIfInBounds_toArray, List.set_cons_zero, List.set_cons_succ]
  refine wpAnyH_take (i := 13) (oi := { dst := some 7, op := Op.assign (Operand.const (Value.bool true)), type := 4, pos := "state.go:106", after := #[{ on := 12, ground := Ground.chain }, { on := 0, ground := Ground.phase }, { on := 1, ground := Ground.phase }, { on := 2, ground := Ground.phase }, { on := 3, ground := Ground.phase }, { on := 4, ground := Ground.phase }, { on := 5, ground := Ground.phase }, { on := 6, ground := Ground.phase }, { on := 7, ground := Ground.phase }, { on := 8, ground := Ground.phase }, { on := 9, ground := Ground.phase }, { on := 10, ground := Ground.phase }, { on := 11, ground := Ground.phase }, { on := 12, ground := Ground.phase }], guard := none }) (v := ?_) rfl (by kernel_rfl) (by kernel_rfl) (by kernel_rfl) (fun _ _ _ h => h) (Or.inl ⟨by rfl, ?_⟩) (by assumption) ?_
  rotate_left
  · (intro w hSw; (try dsimp only at hSw); go_simp); (try with_reducible rfl)
  try simp only [Act.put, List.setIfInBounds_toArray, List.set_cons_zero, List.set_cons_succ]
  refine wpAnyH_done (by kernel_rfl) ?_ _
  refine NoPanic.normal ?_
  go_wp2_with fail
  (try simp only [Exit.inBlock, Exit.then])
  refine bodyPost_ret (results_tmp4 rfl _ _ _) rfl ?_
  exact F.out
end Go.Proofs.Ytfeeincglijmjaa
