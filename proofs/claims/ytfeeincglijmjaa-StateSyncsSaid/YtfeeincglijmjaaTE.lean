/- The walk of state's Take. -/
import Derived.Test.YtfeeincglijmjaaSN
import Derived.Deep.DeepCutAuto
namespace Go.Proofs.Ytfeeincglijmjaa
open Go.RowKit
set_option linter.unusedVariables false
set_option linter.unusedSimpArgs false
attribute [local go_sem ↓] Go.wp_at_zero Go.wp_at_succ

theorem apply_gok {s : Scr} {d : List UInt8} (h : (dApply s d).2 = 0) : gOk (dApply s d).1 = true := by
  unfold dApply at h ⊢
  split at h
  · rename_i hg
    rw [if_pos hg]
    split at h
    · rename_i hx
      rw [dif_pos hx]
      exact (diff_back (Classical.choose_spec hx)).2.1
    · exact absurd h (by decide)
  · exact absurd h (by decide)
/-- Is nothing taken? -/
def dNone (l : List (Int × Scr)) (b n : Int) : Bool :=
  decide (sFind b l < 0) || (match l.getLast? with | some x => decide (n ≤ x.1) | none => false) || decide (4611686018427387903 < n)
/-- A client's behind a difference, and whether it was of use. -/
noncomputable def dTake (l : List (Int × Scr)) (b n : Int) (d : List UInt8) : List (Int × Scr) × Bool :=
  if sCheck l then
    if dNone l b n then (l, false)
    else match l[(sFind b l).toNat]? with
      | some x => if (dApply x.2 d).2 = 0 then (dShort (l.drop (sFind b l).toNat ++ [(n, (dApply x.2 d).1)]), true) else (l, false)
      | none => (l, false)
  else ([], false)
/-- What Take hands back. -/
def RetTk (w : World) (P : List (Int × Scr)) (q : Bool) (e : Ending) (w' : World) : Prop :=
  ∃ A c K, e = .returned (.tuple #[.slice A K.length c, .bool q]) ∧ K.map Shn.p = P ∧ w'.ownsRow w.heap.size 39 17 (.slice A K.length c) K.length (shCells K) ∧ (∀ x ∈ K, Shn.Ok w' w'.heap.size x) ∧ Below w.heap.size w w'
/-- .. their places beyond any lo ahead. -/
def RetTx (w : World) (P : List (Int × Scr)) (q : Bool) (e : Ending) (w' : World) : Prop :=
  ∃ A c K, e = .returned (.tuple #[.slice A K.length c, .bool q]) ∧ K.map Shn.p = P ∧ w'.ownsRow w.heap.size 39 17 (.slice A K.length c) K.length (shCells K) ∧ (∀ x ∈ K, Shn.Ok w' w'.heap.size x) ∧ Below w.heap.size w w' ∧ (∀ x ∈ K, x.Lo w' w.heap.size)
theorem RetTx.tk {w w' : World} {P : List (Int × Scr)} {q : Bool} {e : Ending} (h : RetTx w P q e w') : RetTk w P q e w' := by
  obtain ⟨A, c, K, h1, h2, h3, h4, h5, -⟩ := h
  exact ⟨A, c, K, h1, h2, h3, h4, h5⟩
theorem RetSx.tx {w w1 w2 : World} {P : List (Int × Scr)} {L : Nat → Prop} {A : Option Addr} {n c : Nat} (q : Bool) (b : Below w.heap.size w w1) (h : RetSx w1 P L (.returned (.slice A n c)) w2) (hL : L w.heap.size) : RetTx w P q (.returned (.tuple #[.slice A n c, .bool q])) w2 := by
  obtain ⟨A', c', K, h1, h2, h3, h4, h5, h6⟩ := h
  injection h1 with h1
  injection h1 with e1 e2 e3
  subst e1 e2 e3
  exact ⟨A, c, K, rfl, h2, own_more h3 b.size, h4, b.trans (h5.mono b.size), h6 _ hL⟩
theorem RetOw.tx {w w1 w2 : World} {P : List (Int × Scr)} {A : Option Addr} {n c : Nat} (q : Bool) (b : Below w.heap.size w w1) (h : RetOw w1 P (.returned (.slice A n c)) w2) : RetTx w P q (.returned (.tuple #[.slice A n c, .bool q])) w2 :=
  RetSx.tx q b (h.sx (L := fun lo => lo ≤ w1.heap.size) (fun lo h => h)) b.size
theorem RetSh.tk {w w1 w2 : World} {P : List (Int × Scr)} {A : Option Addr} {n c : Nat} (q : Bool) (b : Below w.heap.size w w1) (h : RetSh w1 P (.returned (.slice A n c)) w2) : RetTk w P q (.returned (.tuple #[.slice A n c, .bool q])) w2 := by
  obtain ⟨A', c', K, h1, h2, h3, h4, h5⟩ := h
  injection h1 with h1
  injection h1 with e1 e2 e3
  subst e1 e2 e3
  exact ⟨A, c, K, rfl, h2, own_more h3 b.size, h4, b.trans (h5.mono b.size)⟩

set_option maxHeartbeats 8000000 in
set_option maxRecDepth 100000 in
theorem take_lo {up lo2 up2 : Nat} {A D : Option Addr} {n c dc : Nat} {l : List Shn} {z k : Int} {d : List UInt8} {w : World} (hr : Shs w up A n c l) (hup : up ≤ w.heap.size) (hn : n ≤ 9223372036854775807) (hd : Sl w lo2 up2 1 D d.length dc (byteCells d)) (hup2 : up2 ≤ w.heap.size) (hdl : d.length ≤ 1000000) :
    Calls Try.prog 18 #[.slice A n c, .int .i64 z, .int .i64 k, .slice D d.length dc] w (RetTx w (dTake (l.map Shn.p) z k d).1 (dTake (l.map Shn.p) z k d).2) := by
  have HCk := Lib.hid (scheck_any hr hup hn)
  have hlen := hr.len
  subst hlen
  cases hck : sCheck (l.map Shn.p)
  · have hf : dTake (l.map Shn.p) z k d = ([], false) := by unfold dTake; rw [if_neg (by rw [hck]; decide)]
    rw [hf]
    rw [hck] at HCk
    clear hf hck hr hd
    go_enter Try.func18, Try.ntmps18
    go_wp2_with fail
    refine HCk.out.mono ?_
    rintro e w1 ⟨rfl, b1⟩
    have F := Lib.hid (RetSx.tx false b1 (RetSx.nil0 w1 w1 (fun _ => True) (Below.refl _ _)) trivial)
    go_wp2_with fail
    go_ret2
    exact F.out
  obtain ⟨hl0, hl8, hmem⟩ := sCheck_parts hck
  rw [List.length_map] at hl0 hl8
  obtain ⟨x, hx⟩ : ∃ x, l.getLast? = some x := by
    cases h : l.getLast? with
    | none => rw [List.getLast?_eq_none_iff] at h; subst h; exact absurd hl0 (by decide)
    | some x => exact ⟨x, rfl⟩
  have hok : ∀ y ∈ l, gOk y.s = true := fun y hy => (hmem y.p (List.mem_map_of_mem hy)).2.2
  have HF := Lib.hid (fun W (b : Below w.heap.size w W) => find_any (k := z) (hr.below b hup) (Nat.le_trans hup b.size) hn)
  have HL := Lib.hid (fun W (q : Below w.heap.size w W) => last_any ((hr.below q hup).more (Nat.le_trans hup q.size)) (Nat.le_refl _) (by omega) x hx)
  have HOw := Lib.hid (fun W (q : Below w.heap.size w W) => own_any ((hr.below q hup).more (Nat.le_trans hup q.size)) (Nat.le_refl _) (by omega) hok)
  have hb := sFind_bound z (l.map Shn.p)
  have hfd : dTake (l.map Shn.p) z k d = if dNone (l.map Shn.p) z k then (l.map Shn.p, false) else match (l.map Shn.p)[(sFind z (l.map Shn.p)).toNat]? with
      | some x => if (dApply x.2 d).2 = 0 then (dShort ((l.map Shn.p).drop (sFind z (l.map Shn.p)).toNat ++ [(k, (dApply x.2 d).1)]), true) else (l.map Shn.p, false)
      | none => (l.map Shn.p, false) := by unfold dTake; rw [if_pos hck]
  have hnf : dNone (l.map Shn.p) z k = (decide (sFind z (l.map Shn.p) < 0) || decide (k ≤ x.num) || decide (4611686018427387903 < k)) := by unfold dNone; rw [last_map hx]; rfl
  rw [hck] at HCk
  generalize hT : dTake (l.map Shn.p) z k d = T at *
  obtain ⟨f, hf⟩ : ∃ f, f = sFind z (l.map Shn.p) := ⟨_, rfl⟩
  rw [← hf] at HF hnf hfd hb
  have Hno : Hid (dNone (l.map Shn.p) z k = true → ∀ (w1 w2 : World) (A : Option Addr) (n c : Nat), Below w.heap.size w w1 → RetOw w1 (l.map Shn.p) (.returned (.slice A n c)) w2 → RetTx w T.1 T.2 (.returned (.tuple #[.slice A n c, .bool false])) w2) := Lib.hid (fun hq w1 w2 A n c b h => by
    rw [hfd, if_pos hq]
    exact RetOw.tx false b h)
  by_cases hq : dNone (l.map Shn.p) z k = true
  · have F := Lib.hid (Hno.out hq)
    rw [hnf] at hq
    clear hfd hnf Hno hb hf hT hok hx hmem hck hr hd
    go_enter Try.func18, Try.ntmps18
    go_wp2_with fail
    refine HCk.out.mono ?_
    rintro e w1 ⟨rfl, b1⟩
    clear HCk
    go_wp2_with fail
    refine (HF.out _ b1).mono ?_
    rintro e w2 ⟨rfl, b2⟩
    have bb2 := b1.trans (b2.mono b1.size)
    clear b2 b1 HF
    by_cases c1 : f < 0
    · clear hq HL
      go_wp2_with fail
      refine (HOw.out _ bb2).mono ?_
      rintro e w3 h3
      have h3' := h3
      obtain ⟨A3, c3, K3, rfl, -⟩ := h3'
      have F2 := Lib.hid (F.out _ _ _ _ _ bb2 h3)
      clear h3 F HOw
      go_wp2_with fail
      go_ret2
      exact F2.out
    · by_cases c2 : k ≤ x.num
      · clear hq
        go_wp2_with fail
        refine (HL.out _ bb2).mono ?_
        rintro e w3 ⟨rfl, b3⟩
        have bb3 := bb2.trans (b3.mono bb2.size)
        clear b3 HL
        have hfx : ∀ W, (Instr.field 39 (.agg x.v) 0).run Try.prog W = .ok (.int .i64 x.num) W := fun W => by kernel_rfl
        go_wp2_with fail
        refine (HOw.out _ bb3).mono ?_
        rintro e w4 h3
        have h3' := h3
        obtain ⟨A3, c3, K3, rfl, -⟩ := h3'
        have F2 := Lib.hid (F.out _ _ _ _ _ bb3 h3)
        clear h3 F HOw
        go_wp2_with fail
        go_ret2
        exact F2.out
      · have c3 : 4611686018427387903 < k := by
          simp only [Bool.or_eq_true, decide_eq_true_eq] at hq
          omega
        clear hq
        go_wp2_with fail
        refine (HL.out _ bb2).mono ?_
        rintro e w3 ⟨rfl, b3⟩
        have bb3 := bb2.trans (b3.mono bb2.size)
        clear b3 HL
        have hfx : ∀ W, (Instr.field 39 (.agg x.v) 0).run Try.prog W = .ok (.int .i64 x.num) W := fun W => by kernel_rfl
        go_wp2_with fail
        refine (HOw.out _ bb3).mono ?_
        rintro e w4 h3
        have h3' := h3
        obtain ⟨A3, c4, K3, rfl, -⟩ := h3'
        have F2 := Lib.hid (F.out _ _ _ _ _ bb3 h3)
        clear h3 F HOw
        go_wp2_with fail
        go_ret2
        exact F2.out
  rw [if_neg hq] at hfd
  rw [hnf] at hq
  simp only [Bool.or_eq_true, decide_eq_true_eq, not_or] at hq
  obtain ⟨⟨c1, c2⟩, c3⟩ := hq
  obtain ⟨p, rfl⟩ : ∃ p : Nat, f = p := ⟨f.toNat, by omega⟩
  have hpl : p < l.length := by
    rcases hb with hb | hb
    · rw [List.length_map] at hb; omega
    · rw [List.map_eq_nil_iff] at hb; subst hb; exact absurd hl0 (by decide)
  rw [Int.toNat_natCast, List.getElem?_eq_getElem (by rw [List.length_map]; exact hpl), List.getElem_map] at hfd
  simp only at hfd
  obtain ⟨A', hcut, hs⟩ := hr.cut p (l.length - p) p rfl (by omega)
  have hyl := List.getElem_mem hpl
  obtain ⟨b, o, rfl, hbu, hc⟩ := hr.cell hl0
  have hc0 := hc p hpl
  generalize l[p] = y at *
  have HS := Lib.hid (fun W (q : Below w.heap.size w W) => (show W.rangeAt b (o + p * 17 + 1) (y.s.v y.C y.cc y.M y.cm).toList ∧ (y.s.v y.C y.cc y.M y.cm).size = 16 from ⟨range_tail (range_below hc0 q (by omega)), rfl⟩))
  have HA := Lib.hid (fun W (q : Below w.heap.size w W) => apply_any ((hr.below q hup).ok y hyl).1 (Nat.le_trans hup q.size) (hd.below q hup2) (Nat.le_trans hup2 q.size) (hr.ok y hyl).2 hdl)
  have HWi := Lib.hid (fun W (q : Below w.heap.size w W) (u : Shn) (hu : u.Ok W W.heap.size) => with_lo ((hs.below q hup).more (Nat.le_trans hup q.size)) (Nat.le_refl _) (by omega) (by omega) (fun v hv => hok v (List.mem_of_mem_drop hv)) hu)
  have a1 := addr_add b o (p * 17)
  have a2 := addr_add b (o + p * 17) 1
  have hpI : (p : Int) < l.length := by omega
  have Hgo := Lib.hid (fun h => apply_gok (s := y.s) (d := d) h)
  have hfd' : T = if (dApply y.s d).2 = 0 then (dShort ((l.drop p).map Shn.p ++ [(k, (dApply y.s d).1)]), true) else (l.map Shn.p, false) := by rw [hfd, List.map_drop]; rfl
  have Hfd := Lib.hid hfd'
  obtain ⟨⟨t, j⟩, hq⟩ : ∃ q, q = dApply y.s d := ⟨_, rfl⟩
  rw [← hq] at HA Hfd Hgo
  simp only at HA Hfd Hgo
  have hn8 : (l.length : Int) ≤ 8 := by omega
  clear hfd hfd' hq hnf Hno hb hf hT hok hx hmem hck hr hd hyl hc hc0 hs
  generalize y.s.v y.C y.cc y.M y.cm = cy at *
  go_enter Try.func18, Try.ntmps18
  go_wp2_with fail
  refine HCk.out.mono ?_
  rintro e w1 ⟨rfl, b1⟩
  clear HCk
  go_wp2_with fail
  refine (HF.out _ b1).mono ?_
  rintro e w2 ⟨rfl, b2⟩
  have bb2 := b1.trans (b2.mono b1.size)
  clear b2 b1 HF
  go_wp2_with fail
  refine (HL.out _ bb2).mono ?_
  rintro e w3 ⟨rfl, b3⟩
  have bb3 := bb2.trans (b3.mono bb2.size)
  clear b3 HL bb2
  have hfx : ∀ W, (Instr.field 39 (.agg x.v) 0).run Try.prog W = .ok (.int .i64 x.num) W := fun W => by kernel_rfl
  have hS3 := HS.out _ bb3
  go_wp2_with (first | ((with_reducible refine wpList_lds hS3 ?_ ?_); rfl))
  refine (HA.out _ bb3).mono ?_
  rintro e w4 ⟨C4, cc4, M4, cm4, rfl, oC4, oM4, b4⟩
  obtain ⟨w5, hst5, kA5, b5, z5⟩ := scr_new w4 t C4 cc4 M4 cm4
  have z4 := b4.size
  have oC5 := own_below oC4 b5 (Nat.le_refl _)
  have oM5 := own_below oM4 b5 (Nat.le_refl _)
  have bb5 := (bb3.trans (b4.mono bb3.size)).trans (b5.mono (by have := bb3.size; omega))
  have bb3z := bb3.size
  clear oC4 oM4 b4 b5 HA hS3 bb3 HS
  by_cases hj : j = 0
  · subst hj
    have hgt := Hgo.out rfl
    have hlt : t.Len := by have := gOk_len hgt; unfold Scr.Len; omega
    have hy : Shn.Ok w5 w5.heap.size ⟨k, t, C4, cc4, M4, cm4⟩ := ⟨⟨(Sl.of_own oC5).more (Nat.zero_le _) (Nat.le_refl _), (Sl.of_own oM5).more (Nat.zero_le _) (Nat.le_refl _)⟩, hlt⟩
    have HW := Lib.hid (HWi.out _ bb5.drew ⟨k, t, C4, cc4, M4, cm4⟩ (hy.below ((Below.refl w5.heap.size w5).drew) (Nat.le_refl _)))
    have bb6 := bb5.drew
    have hylo : Shn.Lo w5.drew w.heap.size ⟨k, t, C4, cc4, M4, cm4⟩ := ((ScrAt.own' (own_drew oC5) (own_drew oM5)).more (by have := bb3z; omega) (Nat.le_refl _))
    have F := Lib.hid (fun (w1 w2 : World) (A : Option Addr) (n c : Nat) (b : Below w.heap.size w w1) (u : Shn) (hu : u.Lo w1 w.heap.size) (h : RetSx w1 (dShort ((l.drop p).map Shn.p ++ [(k, t)])) (fun lo => lo ≤ w1.heap.size ∧ u.Lo w1 lo) (.returned (.slice A n c)) w2) => (show RetTx w T.1 T.2 (.returned (.tuple #[.slice A n c, .bool true])) w2 by
      rw [Hfd.out, if_pos rfl]
      exact RetSx.tx true b h ⟨b.size, hu⟩))
    have HS := Lib.hid (blk_range kA5)
    generalize hct : t.v C4 cc4 M4 cm4 = ct at *
    have hs16 : ct.size = 16 := by rw [← hct]; rfl
    have Hct := Lib.hid hct
    clear hy hlt hgt Hgo Hfd oC5 oM5 HOw HWi kA5 hct
    go_upto_region 9 with (first | ((with_reducible refine wpList_st2 hst5 ?_ ?_); exact ⟨rfl, rfl⟩))
    clear hst5
    refine wp_region_noPanic ?_
    refine wp_region_held_drew (S := (fun w' : World => Hid (w'.rangeAt w4.heap.size 0 ct.toList))) (by kernel_rfl) (by (try dsimp only); exact HS) (fun hHeld => ?_)
    refine wpAnyH_take (i := 0) (oi := { dst := some 48, op := Op.move (Operand.tmp 0), type := 25, pos := "state.go:122", after := #[], guard := none }) (v := ?_) rfl (by kernel_rfl) (by kernel_rfl) (by kernel_rfl) (fun _ _ _ h => h) (Or.inl ⟨by rfl, ?_⟩) (by assumption) ?_
    rotate_left
    · (intro w hSw; (try dsimp only at hSw); go_simp); (try with_reducible rfl)
    try simp only [Act.put, List.setIfInBounds_toArray, List.set_cons_zero, List.set_cons_succ]
    refine wpAnyH_take (i := 1) (oi := { dst := some 49, op := Op.move (Operand.tmp 10), type := 3, pos := "state.go:122", after := #[], guard := none }) (v := ?_) rfl (by kernel_rfl) (by kernel_rfl) (by kernel_rfl) (fun _ _ _ h => h) (Or.inl ⟨by rfl, ?_⟩) (by assumption) ?_
    rotate_left
    · (intro w hSw; (try dsimp only at hSw); go_simp); (try with_reducible rfl)
    try simp only [Act.put, List.setIfInBounds_toArray, List.set_cons_zero, List.set_cons_succ]
    refine wpAnyH_take (i := 2) (oi := { dst := some 50, op := Op.slice 25 (Operand.tmp 48) (some (Operand.tmp 49)) none none, type := 25, pos := "state.go:122", after := #[{ on := 0, ground := Ground.data }, { on := 1, ground := Ground.data }], guard := none }) (v := ?_) rfl (by kernel_rfl) (by kernel_rfl) (by kernel_rfl) (fun _ _ _ h => h) (Or.inl ⟨by rfl, ?_⟩) (by assumption) ?_
    rotate_left
    · (intro w hSw; (try dsimp only at hSw); go_simp); (try with_reducible rfl)
    try simp only [Act.put, List.setIfInBounds_toArray, List.set_cons_zero, List.set_cons_succ]
    refine wpAnyH_take (i := 3) (oi := { dst := some 51, op := Op.move (Operand.tmp 2), type := 3, pos := "state.go:122", after := #[], guard := none }) (v := ?_) rfl (by kernel_rfl) (by kernel_rfl) (by kernel_rfl) (fun _ _ _ h => h) (Or.inl ⟨by rfl, ?_⟩) (by assumption) ?_
    rotate_left
    · (intro w hSw; (try dsimp only at hSw); go_simp); (try with_reducible rfl)
    try simp only [Act.put, List.setIfInBounds_toArray, List.set_cons_zero, List.set_cons_succ]
    refine wpAnyH_take (i := 4) (oi := { dst := some 52, op := Op.load 35 (Operand.tmp 11), type := 35, pos := "state.go:122", after := #[], guard := none }) (v := .agg ct) rfl (by kernel_rfl) (by kernel_rfl) (by kernel_rfl) (fun _ _ _ h => h) (Or.inl ⟨by rfl, fun w hSw => exec_lds hSw hs16 rfl⟩) (by assumption) ?_
    try simp only [Act.put, List.setIfInBounds_toArray, List.set_cons_zero, List.set_cons_succ]
    refine wpAnyH_take (i := 5) (oi := { dst := some 53, op := Op.build 39 #[(0, Operand.tmp 51), (1, Operand.tmp 52)], type := 39, pos := "state.go:122", after := #[{ on := 3, ground := Ground.data }, { on := 4, ground := Ground.data }], guard := none }) (v := .agg (Shn.v ⟨k, t, C4, cc4, M4, cm4⟩)) rfl (by kernel_rfl) (by kernel_rfl) (by kernel_rfl) (fun _ _ _ h => h) (Or.inl ⟨by rfl, fun w hSw => build39x _ _ _ _ _ _ _ rfl rfl Hct.out.symm⟩) (by assumption) ?_
    try simp only [Act.put, List.setIfInBounds_toArray, List.set_cons_zero, List.set_cons_succ]
    refine wpAnyH_ready (rs := [6]) (by kernel_rfl) (by simp) ?_
    refine AllReadyH.cons (o := { dst := some 54, op := Op.call { callee := Callee.value (Operand.func 46), args := #[Operand.tmp 50, Operand.tmp 53], argTypes := #[25, 39] }, type := 25, pos := "state.go:122", after := #[{ on := 2, ground := Ground.data }, { on := 5, ground := Ground.data }], guard := none }) rfl (fun K hK => ?_) AllReadyH.nil
    go_simp
    refine HW.out.mono ?_; rintro e w7 h7; have h7' := h7; obtain ⟨A7, c7, K7, rfl, -, -, -, hb7, -⟩ := h7'; have F7 := Lib.hid (F.out _ _ _ _ _ bb6 _ hylo h7); have HS7 := Lib.hid (range_below (w := w5.drew) HS.out hb7 (Nat.lt_of_lt_of_le (Nat.lt_succ_self _) z5))
    refine hK.out _ _ (by (try dsimp only); exact HS7) (fun hHeld => ?_)
    clear hK K
    try simp only [Act.put, List.setIfInBounds_toArray, List.set_cons_zero, List.set_cons_succ]
    refine wpAnyH_take (i := 7) (oi := { dst := some 8, op := Op.assign (Operand.tmp 54), type := 25, pos := "state.go:122", after := #[{ on := 6, ground := Ground.data }, { on := 6, ground := Ground.chain }, { on := 0, ground := Ground.phase }, { on := 1, ground := Ground.phase }, { on := 2, ground := Ground.phase }, { on := 3, ground := Ground.phase }, { on := 4, ground := Ground.phase }, { on := 5, ground := Ground.phase }, { on := 6, ground := Ground.phase }], guard := none }) (v := ?_) rfl (by kernel_rfl) (by kernel_rfl) (by kernel_rfl) (fun _ _ _ h => h) (Or.inl ⟨by rfl, ?_⟩) (by assumption) ?_
    rotate_left
    · (intro w hSw; (try dsimp only at hSw); go_simp); (try with_reducible rfl)
    try simp only [Act.put, List.setIfInBounds_toArray, List.set_cons_zero, List.set_cons_succ]
    refine wpAnyH_take (i := 8) (oi := { dst := some 9, op := Op.assign (Operand.const (Value.bool true)), type := 4, pos := "state.go:122", after := #[{ on := 7, ground := Ground.chain }, { on := 0, ground := Ground.phase }, { on := 1, ground := Ground.phase }, { on := 2, ground := Ground.phase }, { on := 3, ground := Ground.phase }, { on := 4, ground := Ground.phase }, { on := 5, ground := Ground.phase }, { on := 6, ground := Ground.phase }, { on := 7, ground := Ground.phase }], guard := none }) (v := ?_) rfl (by kernel_rfl) (by kernel_rfl) (by kernel_rfl) (fun _ _ _ h => h) (Or.inl ⟨by rfl, ?_⟩) (by assumption) ?_
    rotate_left
    · (intro w hSw; (try dsimp only at hSw); go_simp); (try with_reducible rfl)
    try simp only [Act.put, List.setIfInBounds_toArray, List.set_cons_zero, List.set_cons_succ]
    refine wpAnyH_done (by kernel_rfl) ?_ _
    refine NoPanic.normal ?_
    go_wp2_with fail
    go_ret2
    exact F7.out
  · have F := Lib.hid (fun (w1 w2 : World) (A : Option Addr) (n c : Nat) (b : Below w.heap.size w w1) (h : RetOw w1 (l.map Shn.p) (.returned (.slice A n c)) w2) => (show RetTx w T.1 T.2 (.returned (.tuple #[.slice A n c, .bool false])) w2 by
      rw [Hfd.out, if_neg hj]
      exact RetOw.tx false b h))
    have hj' : (j != 0) = true := by simpa using hj
    clear Hgo Hfd oC5 oM5 HWi hcut
    go_wp2_with (first | ((with_reducible refine wpList_st2 hst5 ?_ ?_); exact ⟨rfl, rfl⟩))
    refine (HOw.out _ bb5).mono ?_
    rintro e w6 h3
    have h3' := h3
    obtain ⟨A3, c4, K3, rfl, -⟩ := h3'
    have F2 := Lib.hid (F.out _ _ _ _ _ bb5 h3)
    clear h3 F HOw
    go_wp2_with fail
    go_ret2
    exact F2.out
theorem take_any {up lo2 up2 : Nat} {A D : Option Addr} {n c dc : Nat} {l : List Shn} {z k : Int} {d : List UInt8} {w : World} (hr : Shs w up A n c l) (hup : up ≤ w.heap.size) (hn : n ≤ 9223372036854775807) (hd : Sl w lo2 up2 1 D d.length dc (byteCells d)) (hup2 : up2 ≤ w.heap.size) (hdl : d.length ≤ 1000000) :
    Calls Try.prog 18 #[.slice A n c, .int .i64 z, .int .i64 k, .slice D d.length dc] w (RetTk w (dTake (l.map Shn.p) z k d).1 (dTake (l.map Shn.p) z k d).2) :=
  (take_lo hr hup hn hd hup2 hdl).mono fun e w' h => h.tk
end Go.Proofs.Ytfeeincglijmjaa
