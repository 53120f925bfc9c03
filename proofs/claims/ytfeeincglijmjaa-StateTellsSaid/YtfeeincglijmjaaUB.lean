/- The document's Acked, and its list without the second one. -/
import Derived.Test.YtfeeincglijmjaaSL
import Derived.Test.YtfeeincglijmjaaSC
import Derived.Deep.DeepCutAuto
import Derived.Deep.RegionHeld3
namespace Go.Proofs.Ytfeeincglijmjaa
open Go.RowKit
set_option linter.unusedVariables false
set_option linter.unusedSimpArgs false
attribute [local go_sem ↓] Go.wp_at_zero Go.wp_at_succ

theorem exec_ldh {w : World} {a : Act} {x : Operand} {g o : Nat} {y : Shn} {dst : Option Tmp} {ty : TypeId} {pos : String} {after : Array _} {gd : Option _} (hb : Hid (w.rangeAt g o y.v.toList)) (hx : a.eval x = .pointer (some ⟨g, o, none⟩)) :
    (execOp a.eval ⟨dst, .load 39 x, ty, pos, after, gd⟩).run Try.prog w = .ok (.value (.agg y.v)) w := by
  have := run_loadAt_mid (P := Try.prog) w g o 39 y.v.toList _ hb.out Try.underlying39 rfl (by rw [info39]; rfl)
  unfold execOp
  simp only [hx, Sem.run_bind, this, Result.andThen_ok, Sem.run_pure]
theorem bs39 (w : World) (x : Shn) : (Instr.buildSlice 25 1 #[(0, .agg x.v)]).run Try.prog w = .ok (.slice (some ⟨w.heap.size, 0, none⟩) 1 1) (w.alloc (.cells x.v 39)) := by kernel_rfl
theorem step_bs39 {ops : Array Oper} {dst : Option Tmp} {x : Operand} {ty : TypeId} {pos : String} {after : Array _} {a : Act} {w : World} {K : Act → World → Prop} {Q : Exit → Act → World → Prop} {E : Prop} {y : Shn}
    (hx : a.eval x = .agg y.v) (h : K (a.put dst (.slice (some ⟨w.heap.size, 0, none⟩) 1 1)) (w.alloc (.cells y.v 39))) :
    if Region.wanted ⟨dst, .buildSlice 25 1 #[(0, x)], ty, pos, after, none⟩ (yielded ops a.tmps) = true then Oper.wp Try.prog ⟨dst, .buildSlice 25 1 #[(0, x)], ty, pos, after, none⟩ a w K Q else E := by
  rw [if_pos (by simp [Region.wanted])]
  have := bs39 w y
  unfold Oper.wp execOp
  simp only [hx, Sem.run_bind, List.map_toArray, List.map_cons, List.map_nil, this, Result.andThen_ok]
  exact h
theorem own_new {base : Nat} (w : World) (x : Shn) (hb : base ≤ w.heap.size) : (w.alloc (.cells x.v 39)).ownsRow base 39 17 (.slice (some ⟨w.heap.size, 0, none⟩) 1 1) 1 (shCells [x]) :=
  ⟨by rw [shCells_length]; rfl, .inr ⟨w.heap.size, 1, x.v, rfl, hb, heap_alloc_new w _, Nat.le_refl _, by unfold maxLen; omega, by rw [x.v_size], by rw [List.take_of_length_le (by rw [Array.length_toList, x.v_size]; omega)]; simp [shCells]⟩⟩

set_option maxHeartbeats 4000000 in
set_option maxRecDepth 100000 in
theorem rshort_same {n c : Nat} {A : Option Addr} {w : World} (h : n ≤ 8) : Calls Try.prog 73 #[.slice A n c] w fun e w' => e = .returned (.slice A n c) ∧ w' = w := by
  have hI : (n : Int) ≤ 8 := by omega
  go_enter Try.func73, Try.ntmps73
  go_wp2_with fail
  go_ret
  exact ⟨rfl, rfl⟩
set_option maxHeartbeats 4000000 in
set_option maxRecDepth 100000 in
theorem rshort_cut {up n c : Nat} {A : Option Addr} {l : List Shn} {w : World} (hr : Shs w up A n c l) (hup : up ≤ w.heap.size) (h8 : 8 < n) (hn : n ≤ 100) : Calls Try.prog 73 #[.slice A n c] w (RetSh w (dShort (l.map Shn.p))) := by
  obtain ⟨i0, hi0, hz0, hz1, hz2⟩ := info_parts info39x
  have hlen := hr.len
  obtain ⟨m, hm⟩ : ∃ m, 2 + m = n := ⟨n - 2, by omega⟩
  obtain ⟨b, o, rfl, hb, hc⟩ := hr.cell (by omega)
  obtain ⟨A', hcut, hs⟩ := hr.cut 2 m 2 rfl hm
  obtain ⟨x, y, r, rfl⟩ : ∃ x y r, l = x :: y :: r := by
    match l, hlen with
    | [], h => simp at h; omega
    | [_], h => simp at h; omega
    | x :: y :: r, _ => exact ⟨x, y, r, rfl⟩
  simp only [List.length_cons] at hlen
  have hP : dShort ((x :: y :: r).map Shn.p) = (x :: r).map Shn.p := by
    unfold dShort
    rw [if_neg (by simp; omega)]
    rfl
  rw [hP]
  have hc0 : w.rangeAt b o x.v.toList := by
    have := hc 0 (by simp)
    simpa using this
  have hd : List.drop 2 (x :: y :: r) = r := rfl
  rw [hd] at hs
  have HS := Lib.hid (fun W (q : Below w.heap.size w W) => (show Hid (W.rangeAt b o x.v.toList) from Lib.hid (range_below hc0 q (by omega))))
  have HSl := Lib.hid (fun W (q : Below w.heap.size w W) => (hs.below q hup).sl)
  have hok := hr.ok
  have HOk := Lib.hid (fun W (q : Below w.heap.size w W) (u : Shn) (hu : u ∈ x :: r) => (show Shn.Ok W W.heap.size u from ((hok u (by rcases List.mem_cons.1 hu with h | h; exact List.mem_cons.2 (.inl h); exact List.mem_cons_of_mem _ (List.mem_cons_of_mem _ h))).below q hup).more (Nat.le_trans hup q.size)))
  have b00 : Below w.heap.size w w.drew := (Below.refl _ _).drew
  have b01 : Below w.heap.size w (w.drew.alloc (.cells x.v 39)) := b00.alloc (Nat.le_refl _) _
  have hI : ¬ ((n : Int) ≤ 8) := by omega
  have hmr : m = r.length := by omega
  have hn0 : 0 < n := by omega
  have hm100 : m ≤ 98 := by omega
  have Hmr := Lib.hid hmr
  clear hr hc hc0 hs hlen hP hd hok h8 hn hb hmr
  go_enter Try.func73, Try.ntmps73
  go_upto_region 3 with fail
  refine wp_region_noPanic ?_
  refine wp_region_held_drew (S := (fun w' : World => Hid (w'.rangeAt b o x.v.toList))) (by kernel_rfl) (by (try dsimp only); exact HS.out _ b00) (fun hHeld => ?_)
  refine wpAnyH_take (i := 0) (oi := { dst := some 7, op := Op.move (Operand.tmp 0), type := 25, pos := "ref.go:40", after := #[], guard := none }) (v := ?_) rfl (by kernel_rfl) (by kernel_rfl) (by kernel_rfl) (fun _ _ _ h => h) (Or.inl ⟨by rfl, ?_⟩) (by assumption) ?_
  rotate_left
  · (intro w hSw; (try dsimp only at hSw); go_simp); (try with_reducible rfl)
  try simp only [Act.put, List.setIfInBounds_toArray, List.set_cons_zero, List.set_cons_succ]
  refine wpAnyH_take (i := 1) (oi := { dst := some 8, op := Op.indexAddr 25 (Operand.tmp 7) (Operand.const (Value.int IntKind.i64 0)), type := 0, pos := "ref.go:40", after := #[{ on := 0, ground := Ground.data }], guard := none }) (v := ?_) rfl (by kernel_rfl) (by kernel_rfl) (by kernel_rfl) (fun _ _ _ h => h) (Or.inl ⟨by rfl, ?_⟩) (by assumption) ?_
  rotate_left
  · (intro w hSw; (try dsimp only at hSw); go_simp); (try with_reducible rfl)
  try simp only [Act.put, List.setIfInBounds_toArray, List.set_cons_zero, List.set_cons_succ]
  refine wpAnyH_take (i := 2) (oi := { dst := some 9, op := Op.load 39 (Operand.tmp 8), type := 39, pos := "ref.go:40", after := #[{ on := 1, ground := Ground.data }], guard := none }) (v := .agg x.v) rfl (by kernel_rfl) (by kernel_rfl) (by kernel_rfl) (fun _ _ _ h => h) (Or.inl ⟨by rfl, fun w hSw => exec_ldh hSw rfl⟩) (by assumption) ?_
  try simp only [Act.put, List.setIfInBounds_toArray, List.set_cons_zero, List.set_cons_succ]
  refine wpAnyH_take (i := 4) (oi := { dst := some 11, op := Op.move (Operand.tmp 0), type := 25, pos := "ref.go:40", after := #[], guard := none }) (v := ?_) rfl (by kernel_rfl) (by kernel_rfl) (by kernel_rfl) (fun _ _ _ h => h) (Or.inl ⟨by rfl, ?_⟩) (by assumption) ?_
  rotate_left
  · (intro w hSw; (try dsimp only at hSw); go_simp); (try with_reducible rfl)
  try simp only [Act.put, List.setIfInBounds_toArray, List.set_cons_zero, List.set_cons_succ]
  refine wpAnyH_take (i := 5) (oi := { dst := some 12, op := Op.slice 25 (Operand.tmp 11) (some (Operand.const (Value.int IntKind.i64 2))) none none, type := 25, pos := "ref.go:40", after := #[{ on := 4, ground := Ground.data }], guard := none }) (v := ?_) rfl (by kernel_rfl) (by kernel_rfl) (by kernel_rfl) (fun _ _ _ h => h) (Or.inl ⟨by rfl, ?_⟩) (by assumption) ?_
  rotate_left
  · (intro w hSw; (try dsimp only at hSw); go_simp); (try with_reducible rfl)
  try simp only [Act.put, List.setIfInBounds_toArray, List.set_cons_zero, List.set_cons_succ]
  refine wpAnyH_ready (rs := [3]) (by kernel_rfl) (by simp) ?_
  refine AllReadyH.cons (o := { dst := some 10, op := Op.buildSlice 25 1 #[(0, Operand.tmp 9)], type := 25, pos := "ref.go:40", after := #[{ on := 2, ground := Ground.data }], guard := none }) rfl (fun K hK => ?_) AllReadyH.nil
  skip
  refine step_bs39 rfl ?_
  refine hK.out _ _ (by (try dsimp only); exact HS.out _ b01) (fun hHeld => ?_)
  clear hK K
  try simp only [Act.put, List.setIfInBounds_toArray, List.set_cons_zero, List.set_cons_succ]
  refine wpAnyH_ready (rs := [6]) (by kernel_rfl) (by simp) ?_
  refine AllReadyH.cons (o := { dst := some 13, op := Op.call { callee := Callee.builtin Builtin.append, args := #[Operand.tmp 10, Operand.tmp 12], argTypes := #[25, 25] }, type := 25, pos := "ref.go:40", after := #[{ on := 3, ground := Ground.data }, { on := 5, ground := Ground.data }], guard := none }) rfl (fun K hK => ?_) AllReadyH.nil
  skip
  refine step_append_sl _ rfl (.tmp 10) (.tmp 12) 25 rfl w.heap.size 39 i0 _ 17 144 Try.underlying25 hi0 hz0 hz1 hz2 rfl (by omega) (.slice (some ⟨w.heap.size, 0, none⟩) 1 1) 1 (shCells [x]) (by simp [Act.eval, Act.put]) (own_new w.drew x (Nat.le_refl _)) 0 up A' m (c - 2) (shCells r) (by simp [Act.eval, Act.put]) (HSl.out _ b01) (shCells_one _) (1 + m) rfl _ rfl (by unfold maxLen; omega) (by omega) (by simp) ?_; intro A4 c4 w4 own4 hg4; have b04 : Below w.heap.size w w4 := b01.grown hg4 (by simp) (fun k e => by cases e; exact Nat.le_refl _)
  refine hK.out _ _ (by (try dsimp only); exact HS.out _ b04) (fun hHeld => ?_)
  clear hK K
  try simp only [Act.put, List.setIfInBounds_toArray, List.set_cons_zero, List.set_cons_succ]
  refine wpAnyH_take (i := 7) (oi := { dst := some 2, op := Op.assign (Operand.tmp 13), type := 25, pos := "ref.go:40", after := #[{ on := 6, ground := Ground.data }, { on := 6, ground := Ground.chain }, { on := 0, ground := Ground.phase }, { on := 1, ground := Ground.phase }, { on := 2, ground := Ground.phase }, { on := 3, ground := Ground.phase }, { on := 4, ground := Ground.phase }, { on := 5, ground := Ground.phase }, { on := 6, ground := Ground.phase }], guard := none }) (v := ?_) rfl (by kernel_rfl) (by kernel_rfl) (by kernel_rfl) (fun _ _ _ h => h) (Or.inl ⟨by rfl, ?_⟩) (by assumption) ?_
  rotate_left
  · (intro w hSw; (try dsimp only at hSw); go_simp); (try with_reducible rfl)
  try simp only [Act.put, List.setIfInBounds_toArray, List.set_cons_zero, List.set_cons_succ]
  refine wpAnyH_done (by kernel_rfl) ?_ _
  refine NoPanic.normal ?_
  go_wp2_with fail
  go_ret
  have e1 : 1 + m = (x :: r).length := by rw [Hmr.out, List.length_cons]; omega
  rw [e1] at own4 ⊢
  exact ⟨A4, c4, x :: r, rfl, rfl, own4, HOk.out _ b04, b04⟩

set_option maxHeartbeats 4000000 in
set_option maxRecDepth 100000 in
theorem racked_any {up : Nat} {A : Option Addr} {n c : Nat} {l : List Shn} {z : Int} {w : World} (hr : Shs w up A n c l) (hup : up ≤ w.heap.size) (hn : n ≤ 9223372036854775807) :
    Calls Try.prog 37 #[.slice A n c, .int .i64 z] w (RetSh w (dAcked (l.map Shn.p) z)) := by
  obtain ⟨i0, hi0, hz0, hz1, hz2⟩ := info_parts info39x
  have HCk := Lib.hid (rscheck_any hr hup hn)
  have HF := Lib.hid (fun W (b : Below w.heap.size w W) => rfind_any (k := z) (hr.below b hup) (Nat.le_trans hup b.size) hn)
  have hlen := hr.len
  subst hlen
  cases hck : sCheck (l.map Shn.p)
  · have hf : dAcked (l.map Shn.p) z = [] := by unfold dAcked; rw [if_neg (by rw [hck]; decide)]
    rw [hf]
    rw [hck] at HCk
    clear hf hck HF hr
    go_enter Try.func37, Try.ntmps37
    go_wp2_with fail
    refine HCk.out.mono ?_
    rintro e w1 ⟨rfl, b1⟩
    have F := Lib.hid (RetSh.nil0 w w1 b1)
    go_wp2_with fail
    go_ret
    exact F.out
  rw [hck] at HCk
  obtain ⟨hl0, hl8, hmem⟩ := sCheck_parts hck
  have hb := sFind_bound z (l.map Shn.p)
  rw [List.length_map] at hl0 hl8 hb
  obtain ⟨k, hk⟩ : ∃ k : Nat, max (sFind z (l.map Shn.p)) 0 = k := ⟨(max (sFind z (l.map Shn.p)) 0).toNat, by omega⟩
  have hkl : k < l.length := by
    rcases hb with hb | hb
    · omega
    · rw [List.map_eq_nil_iff] at hb; subst hb; exact absurd hl0 (by decide)
  have hf : dAcked (l.map Shn.p) z = (l.drop k).map Shn.p := by unfold dAcked; rw [if_pos hck, hk, List.map_drop]; rfl
  rw [hf]
  obtain ⟨m, hm⟩ : ∃ m, k + m = l.length := ⟨l.length - k, by omega⟩
  obtain ⟨A', hcut, hs⟩ := hr.cut k m k rfl hm
  have hmd : (l.drop k).length = m := by rw [List.length_drop]; omega
  have HS := Lib.hid (fun W (b : Below w.heap.size w W) => hs.below b hup)
  have HB2 := Lib.hid (show (sFind z (l.map Shn.p) = -1 ∧ k = 0) ∨ sFind z (l.map Shn.p) = (k : Int) by
    rcases hb with hb | hb
    · omega
    · rw [List.map_eq_nil_iff] at hb; subst hb; exact absurd hl0 (by decide))
  have Hmd := Lib.hid hmd
  have hm8 : m ≤ 8 := by omega
  clear hf hck hr hs hmem hb hmd hl0 hl8 hkl hm hk
  generalize sFind z (l.map Shn.p) = r at *
  generalize l.drop k = K at *
  go_enter Try.func37, Try.ntmps37
  go_wp2_with fail
  refine HCk.out.mono ?_
  rintro e w1 ⟨rfl, b1⟩
  clear HCk
  have b2 := b1.alloc b1.size (.cells #[] 39)
  have hb1 : Below w1.heap.size w1 (w1.alloc (.cells #[] 39)) := (Below.refl _ _).alloc (Nat.le_refl _) _
  have z1 := b1.size
  go_wp2_with fail
  refine (HF.out _ b2).mono ?_
  rintro e w2 ⟨rfl, rfl⟩
  have T := (HS.out _ b2).sl
  clear HF
  rcases HB2.out with ⟨rfl, rfl⟩ | rfl
  · have hcut0 : ∀ w', (Instr.slice 25 (.slice A l.length c) (some (.int .i64 0)) none none).run Try.prog w' = .ok (.slice A' m (c - 0)) w' := hcut
    clear hcut HB2
    go_wp2_with (at_builtin; refine wpList_append_sl _ rfl (.tmp 10) (.tmp 16) 25 rfl w1.heap.size 39 i0 _ 17 144 Try.underlying25 hi0 hz0 hz1 hz2 rfl (by omega) (.slice (some ⟨w1.heap.size, 0, none⟩) 0 0) 0 [] rfl (own_made rfl (Nat.le_refl _)) 0 up A' m (c - 0) (shCells K) rfl T (shCells_one _) m (by omega) _ rfl (by unfold maxLen; omega) (by omega) (by simp) ?_; intro A4 c4 w4 own4 hg4)
    go_ret
    have b3 := hb1.grown hg4 (by simp) (fun k e => by cases e; exact Nat.le_refl _)
    have b4 := b1.trans (b3.mono b1.size)
    rw [List.nil_append] at own4
    rw [← Hmd.out] at own4 ⊢
    exact ⟨A4, c4, K, rfl, rfl, own_more own4 b1.size, fun u hu => ((HS.out _ b4).ok u hu).more (Nat.le_trans hup b4.size), b4⟩
  · have hk1 : max (k : Int) 0 = k := by omega
    clear HB2
    go_wp2_with (at_builtin; refine wpList_append_sl _ rfl (.tmp 10) (.tmp 16) 25 rfl w1.heap.size 39 i0 _ 17 144 Try.underlying25 hi0 hz0 hz1 hz2 rfl (by omega) (.slice (some ⟨w1.heap.size, 0, none⟩) 0 0) 0 [] rfl (own_made rfl (Nat.le_refl _)) 0 up A' m (c - k) (shCells K) rfl T (shCells_one _) m (by omega) _ rfl (by unfold maxLen; omega) (by omega) (by simp) ?_; intro A4 c4 w4 own4 hg4)
    go_ret
    have b3 := hb1.grown hg4 (by simp) (fun k e => by cases e; exact Nat.le_refl _)
    have b4 := b1.trans (b3.mono b1.size)
    rw [List.nil_append] at own4
    rw [← Hmd.out] at own4 ⊢
    exact ⟨A4, c4, K, rfl, rfl, own_more own4 b1.size, fun u hu => ((HS.out _ b4).ok u hu).more (Nat.le_trans hup b4.size), b4⟩
end Go.Proofs.Ytfeeincglijmjaa
