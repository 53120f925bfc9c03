/- The walk of state's Collect. -/
import Derived.Test.YtfeeincglijmjaaTB
import Derived.Test.YtfeeincglijmjaaTD
import Derived.Test.YtfeeincglijmjaaZB9
import Derived.Deep.DeepCutAuto
import Derived.Deep.RegionHeld3
namespace Go.Proofs.Ytfeeincglijmjaa
open Go.RowKit
set_option linter.unusedVariables false
set_option linter.unusedSimpArgs false
attribute [local go_sem ↓] Go.wp_at_zero Go.wp_at_succ

/-- What is kept of the parts ahead. -/
def dKeep (B N : Int) (G : List (List UInt8)) (b n : Int) (part : List UInt8) : List (List UInt8) :=
  if b = B ∧ n = N ∧ (G = [] ∨ dMany (G.headD []) = dMany part) then G else []
/-- Parts, and one more. -/
def dMore (G : List (List UInt8)) (part : List UInt8) : List (List UInt8) := if part ∈ G then G else G ++ [part]
/-- Parts behind another one, and the difference, if all are there. -/
def dCollect (B N : Int) (G : List (List UInt8)) (b n : Int) (part : List UInt8) : (Int × Int × List (List UInt8)) × List UInt8 × Bool :=
  if n < N ∨ dMany part = 0 ∨ 4096 < G.length then ((B, N, G), [], false)
  else ((b, n, dMore (dKeep B N G b n part) part), (jJoin (dMore (dKeep B N G b n part) part)).1, decide ((jJoin (dMore (dKeep B N G b n part) part)).2 = 0))
theorem jJoin_bad (ps : List (List UInt8)) : (jJoin ps).2 = 0 ∨ jJoin ps = ([], 190) := by
  unfold jJoin
  split
  · exact .inr rfl
  · split
    · exact .inr rfl
    · exact .inl rfl
/-- What Collect hands back. -/
def RetCo (w : World) (q : (Int × Int × List (List UInt8)) × List UInt8 × Bool) (e : Ending) (w' : World) : Prop :=
  ∃ A c vs D cd, e = .returned (.tuple #[.agg #[.int .i64 q.1.1, .int .i64 q.1.2.1, .slice A q.1.2.2.length c], .slice D q.2.1.length cd, .bool q.2.2]) ∧ w'.ownsRow w.heap.size 23 1 (.slice A q.1.2.2.length c) q.1.2.2.length vs ∧ Bs w' w.heap.size vs q.1.2.2 ∧
    w'.ownsRow w.heap.size 5 1 (.slice D q.2.1.length cd) q.2.1.length (byteCells q.2.1) ∧ Below w.heap.size w w'
/-- A row of one-celled elements of one's own, written at a place. -/
theorem own_set1 {w : World} {base n c p : Nat} {e : TypeId} {A : Option Addr} {xs : List Value} (h : w.ownsRow base e 1 (.slice A n c) n xs) (hp : p < n) (u : Value) :
    ∃ g, A = some ⟨g, 0, none⟩ ∧ base ≤ g ∧ g < w.heap.size ∧ (∃ v, w.cell? ⟨g, p, none⟩ = some v) ∧ (∀ i, w.frozen? ⟨g, i, none⟩ = false) ∧ (w.setCell ⟨g, p, none⟩ u).ownsRow base e 1 (.slice A n c) n (xs.set p u) := by
  have hn : n = xs.length := by have := h.1; omega
  subst hn
  obtain ⟨g, cur, rfl, hb, hg, hnc, hcm, hcs, ht⟩ := own_split h (by omega)
  have hlt := (Array.getElem?_eq_some_iff.1 hg).1
  obtain ⟨cur', h1, e1⟩ := setCells_row g [u] p w cur hg (by simp; omega)
  refine ⟨g, rfl, hb, hlt, ?_, fun i => by simp [World.frozen?, hg], ?_⟩
  · rw [cell_of_row w g _ cur e (0, 0) hg]
    exact ⟨_, Array.getElem?_eq_getElem (by omega)⟩
  · refine own_mk hb h1 hnc hcm ?_ ?_
    · rw [← Array.length_toList, e1, List.length_append, List.length_append, List.length_take, List.length_drop, Array.length_toList]
      simp only [List.length_cons, List.length_nil]
      omega
    · rw [Nat.mul_one] at ht ⊢
      have l1 : (cur.toList.take p).length = p := by rw [List.length_take, Array.length_toList]; omega
      rw [e1, List.set_eq_take_append_cons_drop, if_pos hp, List.length_singleton]
      conv => rhs; rw [← ht]
      rw [List.take_take, Nat.min_eq_left (by omega), List.drop_take, List.append_assoc, List.take_append, l1, List.take_of_length_le (by rw [l1]; omega)]
      congr 1
      rw [List.singleton_append, show xs.length - p = (xs.length - (p + 1)) + 1 from by omega, List.take_succ_cons]
theorem Blk.keep {w w' : World} {g base n : Nat} {t e : TypeId} {cs : Array Value} {v : Value} {s : Nat} {xs : List Value} (h : Blk w g t cs) (ho : w.ownsRow base e s v n xs) (hg : w.grownBy w' v.ownBlock) (hlt : g < base) : Blk w' g t cs :=
  h.grown hg (fun e' => by have := (ho.lt g e'.symm).1; omega)
theorem set_mid {us vs : List Value} {i : Nat} (hu : us.length = i) (hi : i < vs.length) (u : Value) : (us ++ vs.drop i).set i u = (us ++ [u]) ++ vs.drop (i + 1) := by
  subst hu
  rw [List.drop_eq_getElem_cons hi, List.set_append_right _ _ (Nat.le_refl _), Nat.sub_self, List.set_cons_zero, List.append_assoc]
  rfl
theorem Bs.one {w : World} {base : Nat} {vs : List Value} {ps : List (List UInt8)} (h : Bs w base vs ps) : ∀ u ∈ vs, u.oneCell' = true := h.ps.one

theorem Bs.blk {w : World} {base g : Nat} {vs : List Value} {ps : List (List UInt8)} {t : TypeId} {cs : Array Value} (h : Bs w base vs ps) (hb : Blk w g t cs) (hne : (5 : TypeId) ≠ t) (i : Nat) (u : Value) : Bs (w.setCell ⟨g, i, none⟩ u) base vs ps :=
  ⟨h.1, fun j v p h1 h2 => by
    obtain ⟨A, c, e, ho⟩ := h.2 j v p h1 h2
    exact ⟨A, c, e, own_setBlk ho hb hne i u⟩⟩
theorem info31 : (Try.prog.info? 31).map (·.size) = some 3 := by kernel_rfl
theorem prt_ldv {w : World} {g : Nat} {cs : Array Value} (h : Blk w g 31 cs) (hs : cs.size = 3) : (loadVar 31 ⟨g, 0, none⟩).run Try.prog w = .ok (.agg cs) w := by
  have := run_loadVar_mid (P := Try.prog) w g 0 31 cs.toList _ (blk_range h) Try.underlying31 rfl (by rw [info31, Array.length_toList, hs])
  simpa using this
theorem prt_st {w : World} {g : Nat} {cs : Array Value} (h : Blk w g 31 cs) (hs : cs.size = 3) (v : Array Value) (hv : v.size = 3) (h1 : v.toList.all (·.oneCell') = true) :
    ∃ W', (Instr.storeAt 31 (.pointer (some ⟨g, 0, none⟩)) (.agg v)).run Try.prog w = .ok () W' ∧ Blk W' g 31 v ∧ w.grownBy W' (some g) ∧ W'.heap.size = w.heap.size := by
  have ht := blk_there h
  rw [hs, ← hv] at ht
  have hb := h.all v.toList (by rw [Array.length_toList]; omega)
  refine ⟨_, run_storeAt_mid (P := Try.prog) w g 0 31 v ht (by rw [info31, hv]) (Array.all_eq_true_iff_forall_mem.2 (fun x hx => List.all_eq_true.1 h1 x (by simpa using hx))), by simpa using hb, grownBy_setCells g v.toList 0 w, ?_⟩
  have hsz : ∀ (vs : List Value) (o : Nat) (w : World), (w.setCells g o vs).heap.size = w.heap.size := by
    intro vs
    induction vs with
    | nil => intro o w; rfl
    | cons x r ih => intro o w; rw [World.setCells, ih, World.size_setCell]
  exact hsz _ _ _
theorem results_cellp {fn : Func} {t u x : Tmp} (h : fn.results = #[.cell t 31, .tmp u, .tmp x]) (tmps : Array Value) {w : World} {g : Nat} {cs : Array Value} (hp : tmps.getD t undef = .pointer (some ⟨g, 0, none⟩)) (hb : Blk w g 31 cs) (hs : cs.size = 3) :
    (results fn tmps).run Try.prog w = .ok (.tuple #[.agg cs, tmps.getD u undef, tmps.getD x undef]) w := by
  have hl := prt_ldv hb hs
  simp only [Array.getD_eq_getD_getElem?] at hp
  simp [results, h, hp, hl, asAddr]
theorem wpList_ldp {ops : Array Oper} {rest : List Oper} {dst : Option Tmp} {x : Operand} {ty : TypeId} {pos : String} {after : Array _} {a : Act} {w : World} {Q : Exit → Act → World → Prop} {g : Nat} {cs : Array Value} (hb : Blk w g 31 cs ∧ cs.size = 3)
    (hx : a.eval x = .pointer (some ⟨g, 0, none⟩)) (h : wpList Try.prog ops Q rest (a.put dst (.agg cs)) w) : wpList Try.prog ops Q (⟨dst, .load 31 x, ty, pos, after, none⟩ :: rest) a w := by
  refine wpList_load_mid rfl 31 x rfl g 0 hx cs.toList _ (blk_range hb.1) Try.underlying31 rfl (by rw [info31, Array.length_toList, hb.2]) ?_
  simpa using h
theorem wpList_stp {ops : Array Oper} {rest : List Oper} {dst : Option Tmp} {x y : Operand} {ty : TypeId} {pos : String} {after : Array _} {a : Act} {w W' : World} {Q : Exit → Act → World → Prop} {g : Nat} {v : Array Value} (hst : (Instr.storeAt 31 (.pointer (some ⟨g, 0, none⟩)) (.agg v)).run Try.prog w = .ok () W')
    (hxy : a.eval x = .pointer (some ⟨g, 0, none⟩) ∧ a.eval y = .agg v) (h : wpList Try.prog ops Q rest (a.put dst undef) W') : wpList Try.prog ops Q (⟨dst, .store 31 x y, ty, pos, after, none⟩ :: rest) a w := by
  refine wpList_plain rfl fun K hK => ?_
  unfold Oper.wp execOp
  simp only [hxy.1, hxy.2, Sem.run_bind, hst, Result.andThen_ok]
  exact hK _ _ h
theorem bs3 {w : World} {g : Nat} {cs : Array Value} (h : Blk w g 31 cs) (hs : cs.size = 3) : Blk w g 31 cs ∧ cs.size = 3 := ⟨h, hs⟩
/-- What is handed back, out of the boxes. -/
theorem RetCo.mk {w wr W' : World} {A D : Option Addr} {n c nd cd : Nat} {us : List Value} {B N : Int} {G : List (List UInt8)} {d : List UInt8} {o : Bool} (hown : wr.ownsRow (w.heap.size + 3) 23 1 (.slice A n c) n us) (hbs : Bs wr (w.heap.size + 3) us G)
    (hd : wr.ownsRow (w.heap.size + 3) 5 1 (.slice D nd cd) nd (byteCells d)) (bb : Below w.heap.size w wr) (hg : wr.grownBy W' (some (w.heap.size + 2))) :
    RetCo w ((B, N, G), d, o) (.returned (.tuple #[.agg #[.int .i64 B, .int .i64 N, .slice A n c], .slice D nd cd, .bool o])) W' := by
  have e1 : n = G.length := by have := hown.1; have := hbs.1; omega
  have e2 : nd = d.length := by have := hd.1; rw [byteCells_length] at this; omega
  subst e1 e2
  have hb' := bb.grown hg bb.size (fun k e => by cases e; omega)
  have keep : ∀ {e : TypeId} {s : Nat} {v : Value} {n : Nat} {xs : List Value}, wr.ownsRow (w.heap.size + 3) e s v n xs → W'.ownsRow (w.heap.size + 3) e s v n xs := by
    intro e s v n xs h
    refine ⟨h.1, ?_⟩
    rcases h.2 with h2 | ⟨g, cap, cur, hv, hgb, hh, r⟩
    · exact .inl h2
    · exact .inr ⟨g, cap, cur, hv, hgb, (hg.block g (Array.getElem?_eq_some_iff.1 hh).1 (fun e' => by injection e' with e'; omega)).trans hh, r⟩
  exact ⟨A, c, us, D, cd, rfl, own_more (keep hown) (by omega), ⟨hbs.1, fun i v p h1 h2 => by
    obtain ⟨A, c, e, ho⟩ := hbs.2 i v p h1 h2
    exact ⟨A, c, e, own_more (keep ho) (by omega)⟩⟩, own_more (keep hd) (by omega), hb'⟩

set_option maxHeartbeats 16000000 in
set_option maxRecDepth 100000 in
theorem collect_any {lo up lo2 up2 lo3 up3 : Nat} {A P : Option Addr} {n c cp : Nat} {vs : List Value} {ps : List (List UInt8)} {part : List UInt8} {B0 N0 b1 n1 : Int} {w : World} (hv : Sl w lo2 up2 1 A n c vs) (hup2 : up2 ≤ w.heap.size) (hp : Ps w lo up vs ps) (hup : up ≤ w.heap.size) (h3 : Sl w lo3 up3 1 P part.length cp (byteCells part)) (hup3 : up3 ≤ w.heap.size) (hn : n ≤ 90000) (hl : ∀ p ∈ ps, p.length ≤ 3000) (hpl : part.length ≤ 3000) :
    Calls Try.prog 17 #[.agg #[.int .i64 B0, .int .i64 N0, .slice A n c], .int .i64 b1, .int .i64 n1, .slice P part.length cp] w (RetCo w (dCollect B0 N0 ps b1 n1 part)) := by
  obtain ⟨j0, hj0, jz0, jz1, jz2⟩ := info_parts info5
  obtain ⟨i0, hi0, hz0, hz1, hz2⟩ := info_parts info23
  have hnv : n = vs.length := by have := hv.len; omega
  subst hnv
  have Hvp := Lib.hid hp.1
  have h1 := hp.one
  have HL := Lib.hid hl
  obtain ⟨R, hR⟩ : ∃ R, R = dCollect B0 N0 ps b1 n1 part := ⟨_, rfl⟩
  rw [← hR]
  have HR := Lib.hid hR
  have bb := (((Below.refl w.heap.size w).alloc (Nat.le_refl _) (.cells #[.int .i64 B0, .int .i64 N0, .slice A vs.length c] 31)).alloc (by simp) (.cells #[.slice P part.length cp] 23)).alloc (by simp; omega) (.cells #[.int .i64 0, .int .i64 0, .slice none 0 0] 31)
  have kP := ((Blk.new w 31 #[.int .i64 B0, .int .i64 N0, .slice A vs.length c] rfl).alloc (.cells #[.slice P part.length cp] 23)).alloc (.cells #[.int .i64 0, .int .i64 0, .slice none 0 0] 31)
  have kQ := ((Blk.new (w.alloc (.cells #[.int .i64 B0, .int .i64 N0, .slice A vs.length c] 31)) 23 #[.slice P part.length cp] (g := w.heap.size + 1) (by simp)).alloc (.cells #[.int .i64 0, .int .i64 0, .slice none 0 0] 31))
  have kR := Blk.new ((w.alloc (.cells #[.int .i64 B0, .int .i64 N0, .slice A vs.length c] 31)).alloc (.cells #[.slice P part.length cp] 23)) 31 #[.int .i64 0, .int .i64 0, .slice none 0 0] (g := w.heap.size + 2) (by simp)
  have HV := Lib.hid (fun W (b : Below w.heap.size w W) => hv.below b hup2)
  have HP := Lib.hid (fun W (b : Below w.heap.size w W) => hp.below b hup)
  have H3 := Lib.hid (fun W (b : Below w.heap.size w W) => h3.below b hup3)
  have hz : w.heap.size + 3 ≤ (((w.alloc (.cells #[.int .i64 B0, .int .i64 N0, .slice A vs.length c] 31)).alloc (.cells #[.slice P part.length cp] 23)).alloc (.cells #[.int .i64 0, .int .i64 0, .slice none 0 0] 31)).heap.size := by simp
  have a0 := addr_add w.heap.size 0 0
  have a1 := addr_add w.heap.size 0 1
  have a2 := addr_add w.heap.size 0 2
  have HZ0 := Lib.hid (show 0 ≤ w.heap.size from Nat.zero_le _)
  clear hv hp h3 hl hR
  go_enter Try.func17, Try.ntmps17
  go_upto_region 1 with fail
  generalize ((w.alloc (.cells #[.int .i64 B0, .int .i64 N0, .slice A vs.length c] 31)).alloc (.cells #[.slice P part.length cp] 23)).alloc (.cells #[.int .i64 0, .int .i64 0, .slice none 0 0] 31) = w0 at *
  have HC := Lib.hid (vclone_any (HV.out _ bb) (Nat.le_trans hup2 bb.size) (by omega) h1)
  have ⟨kPc, kPf⟩ := kP.rules
  go_wp2_with fail
  refine HC.out.mono ?_
  rintro e w1 ⟨A1, c1, rfl, own1, hb1⟩
  have z1 := hb1.size
  have kP1 := kP.later hb1
  have kQ1 := kQ.later hb1
  have kR1 := kR.later hb1
  have bb1 := bb.trans (hb1.mono bb.size)
  have ⟨kPd, kPe⟩ := kP1.rules
  have kP2 := kP1.set_ 2 (.slice A1 vs.length c1)
  have kQ2 := kQ1.far (p := ⟨w.heap.size, 2, none⟩) (by simp) (.slice A1 vs.length c1)
  have kR2 := kR1.far (p := ⟨w.heap.size, 2, none⟩) (by simp) (.slice A1 vs.length c1)
  have own2 := own_more (own_setBlk own1 kP1 (by decide) 2 (.slice A1 vs.length c1)) (base' := w.heap.size + 3) (by omega)
  have bb2 := bb1.setCell (p := ⟨w.heap.size, 2, none⟩) (Nat.le_refl _) (.slice A1 vs.length c1)
  have hz2 : w.heap.size + 3 ≤ (w1.setCell ⟨w.heap.size, 2, none⟩ (.slice A1 vs.length c1)).heap.size := by rw [World.size_setCell]; omega
  clear HC kPc kPf
  have Hown1 := Lib.hid own1
  clear own1 hb1 z1 kP1 kQ1 kR1 bb1 kP kQ kR bb hz
  go_upto_region 2 with fail
  generalize w1.setCell ⟨w.heap.size, 2, none⟩ (.slice A1 vs.length c1) = w2 at *
  clear kPd kPe
  simp only [List.setIfInBounds_toArray, List.set_cons_zero, List.set_cons_succ] at kP2
  have ⟨kPc, kPf⟩ := kP2.rules
  go_wp2_with fail
  clear kPc kPf
  go_loopg [23] vs.length (fun gh s23 wr => ∃ (i : Nat) (us : List Value), gh = vs.length - i ∧ i ≤ vs.length ∧ s23 = .int .i64 i ∧ us.length = i ∧ wr.ownsRow (w.heap.size + 3) 23 1 (.slice A1 vs.length c1) vs.length (us ++ vs.drop i) ∧ Hid (Bs wr (w.heap.size + 3) us (ps.take i)) ∧
    Blk wr w.heap.size 31 #[.int .i64 B0, .int .i64 N0, .slice A1 vs.length c1] ∧ Blk wr (w.heap.size + 1) 23 #[.slice P part.length cp] ∧ Blk wr (w.heap.size + 2) 31 #[.int .i64 0, .int .i64 0, .slice none 0 0] ∧ Below w.heap.size w wr)
  case atStart => exact ⟨0, [], by omega, by omega, rfl, rfl, own2, Lib.hid (Bs.nil _ _), kP2, kQ2, kR2, bb2⟩
  case round =>
    clear own2 kP2 kQ2 kR2 bb2 hz2
    obtain ⟨i, us, hgh, hi, rfl, hus, hown, hbs, kP, kQ, kR, bb⟩ := hrel
    have HG := Lib.hid hgh
    clear hgh
    have zz := kR.lt
    by_cases h : i < vs.length
    · have hip : i < ps.length := by rw [← Hvp.out]; exact h
      obtain ⟨Ai, ci, ev, sl⟩ := (HP.out _ bb).2 i vs[i] ps[i] (List.getElem?_eq_getElem h) (List.getElem?_eq_getElem hip)
      have hxi : (us ++ vs.drop i)[i]? = some (.slice Ai ps[i].length ci) := by
        rw [List.getElem?_append_right (by omega), hus, Nat.sub_self, List.getElem?_drop, Nat.add_zero, List.getElem?_eq_getElem h, ev]
      have hpl2 := HL.out ps[i] (List.getElem_mem hip)
      have HT := Lib.hid (show ps.take (i + 1) = ps.take i ++ [ps[i]] from List.take_succ_eq_append_getElem hip)
      obtain ⟨g, rfl, hgb, hgl, -, hgf, -⟩ := own_set1 hown h (.int .i64 0)
      have k1 : wr.cell? ⟨g, i, none⟩ = some (.slice Ai ps[i].length ci) := by
        have := hown.cells (g := g) rfl i _ hxi
        rwa [addr_add, Nat.zero_add] at this
      have HB := Lib.hid (bclone_any (sl.drew) (by show up ≤ wr.heap.size; omega) (by omega))
      have ag := addr_add g 0 i
      rw [Nat.zero_add] at ag
      have hiI : (i : Int) < vs.length := by omega
      have ⟨kPc, kPf⟩ := kP.rules
      have b00 : Below wr.heap.size wr wr.drew := (Below.refl _ _).drew
      have HS := Lib.hid (fun W (q : Below wr.heap.size wr W) => (show W.cell? ⟨w.heap.size, 2, none⟩ = some (.slice (some ⟨g, 0, none⟩) vs.length c1) from (kP.later q).rules.1 2))
      generalize ps[i] = x at *
      clear ev sl hgf
      go_upto_region 5 with fail
      refine wp_region_noPanic ?_
      refine wp_region_held_drew (S := (fun w' : World => w'.cell? ⟨w.heap.size, 2, none⟩ = some (.slice (some ⟨g, 0, none⟩) vs.length c1))) (by kernel_rfl) (by (try dsimp only); exact HS.out _ b00) (fun hHeld => ?_)
      refine wpAnyH_take (i := 0) (oi := { dst := some 28, op := Op.fieldAddr 31 (Operand.tmp 4) 2, type := 0, pos := "state.go:142", after := #[], guard := none }) (v := ?_) rfl (by kernel_rfl) (by kernel_rfl) (by kernel_rfl) (fun _ _ _ h => h) (Or.inl ⟨by rfl, ?_⟩) (by assumption) ?_
      rotate_left
      · (intro w hSw; (try dsimp only at hSw); go_simp); (try with_reducible rfl)
      try simp only [Act.put, List.setIfInBounds_toArray, List.set_cons_zero, List.set_cons_succ]
      refine wpAnyH_take (i := 1) (oi := { dst := some 29, op := Op.load 29 (Operand.tmp 28), type := 29, pos := "state.go:142", after := #[{ on := 0, ground := Ground.data }], guard := none }) (v := ?_) rfl (by kernel_rfl) (by kernel_rfl) (by kernel_rfl) (fun _ _ _ h => h) (Or.inl ⟨by rfl, ?_⟩) (by assumption) ?_
      rotate_left
      · (intro w hSw; (try dsimp only at hSw); go_simp); (try with_reducible rfl)
      try simp only [Act.put, List.setIfInBounds_toArray, List.set_cons_zero, List.set_cons_succ]
      refine wpAnyH_take (i := 2) (oi := { dst := some 30, op := Op.move (Operand.tmp 11), type := 3, pos := "state.go:142", after := #[], guard := none }) (v := ?_) rfl (by kernel_rfl) (by kernel_rfl) (by kernel_rfl) (fun _ _ _ h => h) (Or.inl ⟨by rfl, ?_⟩) (by assumption) ?_
      rotate_left
      · (intro w hSw; (try dsimp only at hSw); go_simp); (try with_reducible rfl)
      try simp only [Act.put, List.setIfInBounds_toArray, List.set_cons_zero, List.set_cons_succ]
      refine wpAnyH_take (i := 3) (oi := { dst := some 31, op := Op.move (Operand.tmp 12), type := 23, pos := "state.go:142", after := #[], guard := none }) (v := ?_) rfl (by kernel_rfl) (by kernel_rfl) (by kernel_rfl) (fun _ _ _ h => h) (Or.inl ⟨by rfl, ?_⟩) (by assumption) ?_
      rotate_left
      · (intro w hSw; (try dsimp only at hSw); go_simp); (try with_reducible rfl)
      try simp only [Act.put, List.setIfInBounds_toArray, List.set_cons_zero, List.set_cons_succ]
      refine wpAnyH_ready (rs := [4]) (by kernel_rfl) (by simp) ?_
      refine AllReadyH.cons (o := { dst := some 32, op := Op.call { callee := Callee.value (Operand.func 48), args := #[Operand.tmp 31], argTypes := #[23] }, type := 23, pos := "state.go:142", after := #[{ on := 3, ground := Ground.data }], guard := none }) rfl (fun K hK => ?_) AllReadyH.nil
      go_simp
      refine HB.out.mono ?_; rintro e w5 ⟨A5, c5, rfl, oB5, hb5⟩; have b05 : Below wr.heap.size wr w5 := b00.trans (hb5.mono (Nat.le_refl _)); have own5 := own_below hown b05 (Nat.le_refl _); obtain ⟨g', eg', -, -, ⟨v5, k5⟩, f5, own7⟩ := own_set1 own5 h (.slice A5 x.length c5); cases eg'
      refine hK.out _ _ (by (try dsimp only); exact HS.out _ b05) (fun hHeld => ?_)
      clear hK K
      try simp only [Act.put, List.setIfInBounds_toArray, List.set_cons_zero, List.set_cons_succ]
      refine wpAnyH_take (i := 5) (oi := { dst := some 33, op := Op.indexAddr 29 (Operand.tmp 29) (Operand.tmp 30), type := 0, pos := "state.go:142", after := #[{ on := 1, ground := Ground.data }, { on := 2, ground := Ground.data }, { on := 0, ground := Ground.phase }, { on := 1, ground := Ground.phase }, { on := 2, ground := Ground.phase }, { on := 3, ground := Ground.phase }, { on := 4, ground := Ground.phase }], guard := none }) (v := ?_) rfl (by kernel_rfl) (by kernel_rfl) (by kernel_rfl) (fun _ _ _ h => h) (Or.inl ⟨by rfl, ?_⟩) (by assumption) ?_
      rotate_left
      · (intro w hSw; (try dsimp only at hSw); go_simp); (try with_reducible rfl)
      try simp only [Act.put, List.setIfInBounds_toArray, List.set_cons_zero, List.set_cons_succ]
      refine wpAnyH_ready (rs := [6]) (by kernel_rfl) (by simp) ?_
      refine AllReadyH.cons (o := { dst := none, op := Op.store 23 (Operand.tmp 33) (Operand.tmp 32), type := 0, pos := "state.go:142", after := #[{ on := 5, ground := Ground.data }, { on := 4, ground := Ground.data }, { on := 4, ground := Ground.chain }, { on := 0, ground := Ground.phase }, { on := 1, ground := Ground.phase }, { on := 2, ground := Ground.phase }, { on := 3, ground := Ground.phase }, { on := 4, ground := Ground.phase }], guard := none }) rfl (fun K hK => ?_) AllReadyH.nil
      go_simp
      skip
      refine hK.out _ _ (by (try dsimp only); exact (World.cell?_setCell_far _ ⟨g, i, none⟩ ⟨w.heap.size, 2, none⟩ _ (show g ≠ w.heap.size by omega)).trans (HS.out _ b05)) (fun hHeld => ?_)
      clear hK K
      try simp only [Act.put, List.setIfInBounds_toArray, List.set_cons_zero, List.set_cons_succ]
      refine wpAnyH_done (by kernel_rfl) ?_ _
      refine NoPanic.normal ?_
      clear HS
      have G7 : w5.grownBy (w5.setCell ⟨g, i, none⟩ (.slice A5 x.length c5)) (some g) := grownBy_setCells g [.slice A5 x.length c5] i w5
      have zw : wr.heap.size ≤ wr.drew.heap.size := Nat.le_refl _
      have bb7 := (bb.trans (b05.mono (by omega))).setCell (p := ⟨g, i, none⟩) (by show w.heap.size ≤ g; omega) (.slice A5 x.length c5)
      have kP7 := (kP.later b05).far (p := ⟨g, i, none⟩) (by show w.heap.size ≠ g; omega) (.slice A5 x.length c5)
      have kQ7 := (kQ.later b05).far (p := ⟨g, i, none⟩) (by show w.heap.size + 1 ≠ g; omega) (.slice A5 x.length c5)
      have kR7 := (kR.later b05).far (p := ⟨g, i, none⟩) (by show w.heap.size + 2 ≠ g; omega) (.slice A5 x.length c5)
      have Hbs7 := Lib.hid (((hbs.out.below b05 (Nat.le_refl _)).snoc rfl (own_more oB5 (by omega))).apart own5 (by decide) G7)
      have Hown7 := Lib.hid own7
      generalize w5.setCell ⟨g, i, none⟩ (.slice A5 x.length c5) = w7 at *
      clear G7 own7 own5 oB5 hb5 b05 b00 kP kQ kR bb hown hbs k1 v5 k5 f5 HB
      go_wp2_with fail
      go_roundg (vs.length - (i + 1))
      case measure => have := HG.out; omega
      case rel => exact ⟨i + 1, us ++ [.slice A5 x.length c5], rfl, by omega, by go_num, by rw [List.length_append, hus]; rfl, by rw [← set_mid hus h]; exact Hown7.out, Lib.hid (by rw [HT.out]; exact Hbs7.out), kP7, kQ7, kR7, bb7⟩
    · obtain rfl : i = vs.length := by omega
      rw [List.drop_of_length_le (Nat.le_refl _), List.append_nil] at hown
      have hbs2 := hbs.out
      rw [List.take_of_length_le (by rw [Hvp.out]; exact Nat.le_refl _)] at hbs2
      have Hbs := Lib.hid hbs2
      clear hbs hbs2
      have HM := Lib.hid (many_any (H3.out _ bb) (by omega))
      have Hno : Hid (n1 < N0 ∨ dMany part = 0 ∨ 4096 < ps.length → R = ((B0, N0, ps), [], false)) := Lib.hid (fun hq => by rw [HR.out]; unfold dCollect; rw [if_pos hq])
      have Hyes : Hid (¬ (n1 < N0 ∨ dMany part = 0 ∨ 4096 < ps.length) → R = ((b1, n1, dMore (dKeep B0 N0 ps b1 n1 part) part), (jJoin (dMore (dKeep B0 N0 ps b1 n1 part) part)).1, decide ((jJoin (dMore (dKeep B0 N0 ps b1 n1 part) part)).2 = 0))) := Lib.hid (fun hq => by rw [HR.out]; unfold dCollect; rw [if_neg hq])
      have Hkeep : Hid (dKeep B0 N0 ps b1 n1 part = if b1 = B0 ∧ n1 = N0 ∧ (ps = [] ∨ dMany (ps.headD []) = dMany part) then ps else []) := Lib.hid rfl
      obtain ⟨k, hk⟩ : ∃ k, k = dMany part := ⟨_, rfl⟩
      rw [← hk] at HM Hno Hyes Hkeep
      have hpn : vs.length = ps.length := Hvp.out
      generalize vs.length = n at *
      rw [← hpn] at Hno Hyes
      have Hpn := Lib.hid hpn
      clear hk HR HV HP hpn h1 Hvp
      generalize hK1 : dKeep B0 N0 ps b1 n1 part = K1 at *
      clear hK1
      have ⟨kQc, kQf⟩ := kQ.rules
      go_wp2_with fail
      refine HM.out.mono ?_
      rintro e w3 ⟨rfl, rfl⟩
      clear HM kQc kQf
      have ⟨kPc, kPf⟩ := kP.rules
      go_upto_region 8 with fail
      have hnI : (n : Int) ≤ 90000 := by omega
      go_cut [50] (fun s50 wx => ∃ q : Bool, s50 = .bool q ∧ Hid (decide (n1 < N0 ∨ k = 0 ∨ 4096 < n) = q) ∧ w3 = wx)
      case first => as_aux_lemma =>
        by_cases c1 : n1 < N0
        · go_wp2_with fail
          go_meet
          exact ⟨true, rfl, Lib.hid (by simp [c1]), rfl⟩
        · by_cases c2 : k = 0
          · subst c2
            go_wp2_with fail
            go_meet
            exact ⟨true, rfl, Lib.hid (by simp), rfl⟩
          · have c2' : (k == 0) = false := by simpa using c2
            by_cases c3 : 4096 < n
            · have c3' : (4096 : Int) < (n : Int) := by omega
              go_wp2_with fail
              go_meet
              exact ⟨true, rfl, Lib.hid (by simp [c3]), rfl⟩
            · have c3' : ¬ ((4096 : Int) < (n : Int)) := by omega
              go_wp2_with fail
              go_meet
              exact ⟨false, rfl, Lib.hid (by simp [c1, c2, c3]), rfl⟩
      case rest => as_aux_lemma =>
        obtain ⟨q, rfl, hq, rfl⟩ := hcut
        cases q
        · have hR := Hyes.out (of_decide_eq_false hq.out)
          have HR := Lib.hid hR
          clear hR Hno Hyes hq
          go_upto_region 10 with fail
          go_cut [76] (fun s76 wx => ∃ q : Bool, s76 = .bool q ∧ Hid (K1 = if q then [] else ps) ∧ w3 = wx)
          case first => as_aux_lemma =>
            by_cases c1 : b1 = B0
            · subst c1
              have c1' : (b1 != b1) = false := by simp
              by_cases c2 : n1 = N0
              · subst c2
                have c2' : (n1 != n1) = false := by simp
                by_cases c3 : n = 0
                · subst c3
                  have hps : ps = [] := List.eq_nil_of_length_eq_zero Hpn.out.symm
                  have HK : Hid (K1 = ps) := Lib.hid (by rw [Hkeep.out]; exact if_pos ⟨rfl, rfl, .inl hps⟩)
                  clear hown Hkeep
                  go_wp2_with fail
                  go_meet
                  exact ⟨false, rfl, Lib.hid HK.out, rfl⟩
                · have c3' : (0 : Int) < (n : Int) := by omega
                  obtain ⟨p0, r0, hps⟩ : ∃ p r, ps = p :: r := by
                    cases h : ps with
                    | nil => rw [h] at Hpn; exact absurd Hpn.out (by simpa using c3)
                    | cons p r => exact ⟨p, r, rfl⟩
                  obtain ⟨u0, r1, hus0⟩ : ∃ u r, us = u :: r := by
                    cases h : us with
                    | nil => rw [h] at hus; exact absurd hus.symm c3
                    | cons p r => exact ⟨p, r, rfl⟩
                  obtain ⟨A9, c9, ev, ho9⟩ := Hbs.out.2 0 u0 p0 (by rw [hus0]; rfl) (by rw [hps]; rfl)
                  obtain ⟨g, hA1, hgb, hgl, -, hgf, -⟩ := own_set1 hown (Nat.pos_of_ne_zero c3) (.int .i64 0)
                  subst hA1
                  have k1 : w3.cell? ⟨g, 0, none⟩ = some (.slice A9 p0.length c9) := by
                    have := hown.cells (g := g) rfl 0 _ (by rw [hus0]; rfl)
                    rw [← ev]
                    exact this
                  have ag := addr_add g 0 0
                  have hp0 := HL.out p0 (by rw [hps]; exact List.mem_cons_self ..)
                  have HM := Lib.hid (many_any (Sl.of_own ho9) (by omega))
                  have Hps := Lib.hid hps
                  obtain ⟨k9, hk9⟩ : ∃ k, k = dMany p0 := ⟨_, rfl⟩
                  rw [← hk9] at HM
                  have Hk9 := Lib.hid hk9
                  clear hown hus0 hps ho9 ev hgf hk9
                  by_cases c4 : k9 = k
                  · subst c4
                    have HK : Hid (K1 = ps) := Lib.hid (by rw [Hkeep.out]; exact if_pos ⟨rfl, rfl, .inr (by rw [Hps.out]; exact Hk9.out.symm)⟩)
                    clear Hkeep
                    have c4' : (k9 != k9) = false := by simp
                    go_wp2_with fail
                    refine HM.out.mono ?_
                    rintro e w4 ⟨rfl, rfl⟩
                    go_wp2_with fail
                    go_meet
                    exact ⟨false, rfl, Lib.hid HK.out, rfl⟩
                  · have c4' : (k9 != k) = true := by simpa using c4
                    have HK : Hid (K1 = []) := Lib.hid (by rw [Hkeep.out]; exact if_neg (by rintro ⟨-, -, h | h⟩; (rw [Hps.out] at h; cases h); (rw [Hps.out] at h; exact c4 (Hk9.out.trans h))))
                    clear Hkeep
                    go_wp2_with fail
                    refine HM.out.mono ?_
                    rintro e w4 ⟨rfl, rfl⟩
                    go_wp2_with fail
                    go_meet
                    exact ⟨true, rfl, Lib.hid HK.out, rfl⟩
              · have c2' : (n1 != N0) = true := by simpa using c2
                have HK : Hid (K1 = []) := Lib.hid (by rw [Hkeep.out]; exact if_neg (fun h => c2 h.2.1))
                clear hown Hkeep
                go_wp2_with fail
                go_meet
                exact ⟨true, rfl, Lib.hid HK.out, rfl⟩
            · have c1' : (b1 != B0) = true := by simpa using c1
              have HK : Hid (K1 = []) := Lib.hid (by rw [Hkeep.out]; exact if_neg (fun h => c1 h.1))
              clear hown Hkeep
              go_wp2_with fail
              go_meet
              exact ⟨true, rfl, Lib.hid HK.out, rfl⟩
          case rest => as_aux_lemma =>
            obtain ⟨q, rfl, hq, rfl⟩ := hcut
            clear Hkeep
            go_upto_if 76 with fail
            go_cut [] (fun wx => ∃ (A2 : Option Addr) (n2 c2 : Nat) (us2 : List Value), Blk wx w.heap.size 31 #[.int .i64 B0, .int .i64 N0, .slice A2 n2 c2] ∧ n2 ≤ 90000 ∧ wx.ownsRow (w.heap.size + 3) 23 1 (.slice A2 n2 c2) n2 us2 ∧ Hid (Bs wx (w.heap.size + 3) us2 K1) ∧ Hid (∀ p ∈ K1, p.length ≤ 3000) ∧ Blk wx (w.heap.size + 1) 23 #[.slice P part.length cp] ∧ Blk wx (w.heap.size + 2) 31 #[.int .i64 0, .int .i64 0, .slice none 0 0] ∧ Below w.heap.size w wx)
            case first => as_aux_lemma =>
              cases q
              · simp only [Bool.false_eq_true, if_false] at hq
                have hqq := hq.out
                subst hqq
                go_wp2_with fail
                go_meet
                exact ⟨A1, n, c1, us, kP, by omega, hown, Hbs, HL, kQ, kR, bb⟩
              · simp only [if_true] at hq
                have hqq := hq.out
                subst hqq
                go_wp2_with fail
                go_meet
                refine ⟨none, 0, 0, [], by simpa using kP.set_ 2 (.slice none 0 0), by omega, World.ownsRow_nil _ _ _ _, Lib.hid (Bs.nil _ _), Lib.hid (fun p hp => by cases hp), kQ.far (by simp) _, kR.far (by simp) _, bb.setCell (Nat.le_refl _) _⟩
            case rest => as_aux_lemma =>
              obtain ⟨A2, n2, c2, us2, kP, hn2, hown, hbs, hl, kQ, kR, bb⟩ := hcut
              have ⟨kPc, kPf⟩ := kP.rules
              clear Hbs HL hq Hpn
              have kP2 := (kP.set_ 0 (.int .i64 b1)).set_ 1 (.int .i64 n1)
              simp only [List.setIfInBounds_toArray, List.set_cons_zero, List.set_cons_succ] at kP2
              have kQ2 := (kQ.far (p := ⟨w.heap.size, 0, none⟩) (by simp) (.int .i64 b1)).far (p := ⟨w.heap.size, 1, none⟩) (by simp) (.int .i64 n1)
              have kR2 := (kR.far (p := ⟨w.heap.size, 0, none⟩) (by simp) (.int .i64 b1)).far (p := ⟨w.heap.size, 1, none⟩) (by simp) (.int .i64 n1)
              have own2 := own_setBlk (own_setBlk hown kP (by decide) 0 (.int .i64 b1)) (kP.set_ 0 (.int .i64 b1)) (by decide) 1 (.int .i64 n1)
              have bs2 := Lib.hid ((hbs.out.blk kP (by decide) 0 (.int .i64 b1)).blk (kP.set_ 0 (.int .i64 b1)) (by decide) 1 (.int .i64 n1))
              have bb2 := (bb.setCell (p := ⟨w.heap.size, 0, none⟩) (Nat.le_refl _) (.int .i64 b1)).setCell (p := ⟨w.heap.size, 1, none⟩) (Nat.le_refl _) (.int .i64 n1)
              go_upto_region 13 with fail
              generalize (wc.setCell ⟨w.heap.size, 0, none⟩ (.int .i64 b1)).setCell ⟨w.heap.size, 1, none⟩ (.int .i64 n1) = w4 at *
              clear kPc kPf kP kQ kR hown hbs bb
              have ⟨kPc, kPf⟩ := kP2.rules
              obtain ⟨M, hM⟩ : ∃ M, M = dMore K1 part := ⟨_, rfl⟩
              rw [← hM] at HR
              have HMM := Lib.hid hM
              have HlM : Hid (∀ p ∈ M, p.length ≤ 3000) := Lib.hid (by
                rw [hM]
                unfold dMore
                split
                · exact hl.out
                · intro p hp
                  rw [List.mem_append, List.mem_singleton] at hp
                  rcases hp with hp | rfl
                  · exact hl.out p hp
                  · exact hpl)
              clear hM hl
              have HC := Lib.hid (containsb_any (Sl.of_own own2) bs2.out.ps kQ2 (H3.out _ bb2) (by omega))
              go_upto_if 86 with fail
              refine HC.out.mono ?_
              rintro e w5 ⟨rfl, rfl⟩
              clear HC
              go_upto_if 86 with fail
              go_cut [] (fun wx => ∃ (A3 : Option Addr) (n3 c3 : Nat) (us3 : List Value), Blk wx w.heap.size 31 #[.int .i64 b1, .int .i64 n1, .slice A3 n3 c3] ∧ n3 ≤ 90001 ∧ wx.ownsRow (w.heap.size + 3) 23 1 (.slice A3 n3 c3) n3 us3 ∧ Hid (Bs wx (w.heap.size + 3) us3 M) ∧ Blk wx (w.heap.size + 2) 31 #[.int .i64 0, .int .i64 0, .slice none 0 0] ∧ Below w.heap.size w wx)
              case first => as_aux_lemma =>
                cases hin : decide (part ∈ K1)
                · have hm : M = K1 ++ [part] := by rw [HMM.out]; unfold dMore; rw [if_neg (of_decide_eq_false hin)]
                  subst hm
                  clear hin HMM HR HlM
                  have ⟨kQc, kQf⟩ := kQ2.rules
                  have HB := Lib.hid (bclone_any ((H3.out _ bb2).drew) (Nat.le_trans hup3 bb2.size) (by omega))
                  have zz := kR2.lt
                  have b00 : Below w5.heap.size w5 w5.drew := (Below.refl _ _).drew
                  have zw : w5.heap.size ≤ w5.drew.heap.size := Nat.le_refl _
                  go_upto_region 14 with fail
                  refine wp_region_noPanic ?_
                  refine wp_region_until (S := (fun w' : World => w'.cell? ⟨w.heap.size, 2, none⟩ = some (.slice A2 n2 c2) ∧ w'.cell? ⟨w.heap.size + 1, 0, none⟩ = some (.slice P part.length cp))) 7 (by kernel_rfl) (by (try dsimp only); exact ⟨kP2.rules.1 2, kQ2.rules.1 0⟩) (fun hHeld => ?_)
                  refine wpAnyU_take (i := 0) (oi := { dst := some 87, op := Op.fieldAddr 31 (Operand.tmp 4) 2, type := 0, pos := "state.go:153", after := #[], guard := none }) (v := ?_) rfl (by kernel_rfl) (by kernel_rfl) (by kernel_rfl) (by kernel_rfl) (fun _ _ _ h => h) (Or.inl ⟨by rfl, ?_⟩) (by assumption) ?_
                  rotate_left
                  · (intro w hSw; (try dsimp only at hSw); go_simp); (try with_reducible rfl)
                  try simp only [Act.put, List.setIfInBounds_toArray, List.set_cons_zero, List.set_cons_succ]
                  refine wpAnyU_take (i := 1) (oi := { dst := some 88, op := Op.load 29 (Operand.tmp 87), type := 29, pos := "state.go:153", after := #[{ on := 0, ground := Ground.data }], guard := none }) (v := ?_) rfl (by kernel_rfl) (by kernel_rfl) (by kernel_rfl) (by kernel_rfl) (fun _ _ _ h => h) (Or.inl ⟨by rfl, ?_⟩) (by assumption) ?_
                  rotate_left
                  · (intro w hSw; (try dsimp only at hSw); go_simp); (try with_reducible rfl)
                  try simp only [Act.put, List.setIfInBounds_toArray, List.set_cons_zero, List.set_cons_succ]
                  refine wpAnyU_take (i := 2) (oi := { dst := some 89, op := Op.load 23 (Operand.tmp 7), type := 23, pos := "state.go:153", after := #[], guard := none }) (v := ?_) rfl (by kernel_rfl) (by kernel_rfl) (by kernel_rfl) (by kernel_rfl) (fun _ _ _ h => h) (Or.inl ⟨by rfl, ?_⟩) (by assumption) ?_
                  rotate_left
                  · (intro w hSw; (try dsimp only at hSw); go_simp); (try with_reducible rfl)
                  try simp only [Act.put, List.setIfInBounds_toArray, List.set_cons_zero, List.set_cons_succ]
                  refine wpAnyU_one (i := 3) (o := { dst := some 90, op := Op.call { callee := Callee.value (Operand.func 48), args := #[Operand.tmp 89], argTypes := #[23] }, type := 23, pos := "state.go:153", after := #[{ on := 2, ground := Ground.data }], guard := none }) (by kernel_rfl) rfl (fun K hK => ?_)
                  go_simp
                  refine HB.out.mono ?_; rintro e w6 ⟨A5, c5, rfl, oB5, hb5⟩; have b05 : Below w5.heap.size w5 w6 := b00.trans (hb5.mono (Nat.le_refl _)); have k6 := kP2.later b05; have kQ6 := kQ2.later b05; have own6 := own_alloc (own_below own2 b05 (Nat.le_refl _)) (.cells #[.slice A5 part.length c5] 23); have z6 := b05.size
                  refine hK.out _ _ (by (try dsimp only); exact ⟨k6.rules.1 2, kQ6.rules.1 0⟩) (fun hHeld => ?_)
                  clear hK K
                  try simp only [Act.put, List.setIfInBounds_toArray, List.set_cons_zero, List.set_cons_succ]
                  refine wpAnyU_one (i := 4) (o := { dst := some 91, op := Op.buildSlice 29 1 #[(0, Operand.tmp 90)], type := 29, pos := "state.go:153", after := #[{ on := 3, ground := Ground.data }], guard := none }) (by kernel_rfl) rfl (fun K hK => ?_)
                  go_simp
                  skip
                  refine hK.out _ _ (by (try dsimp only); exact ⟨(k6.alloc _).rules.1 2, (kQ6.alloc _).rules.1 0⟩) (fun hHeld => ?_)
                  clear hK K
                  try simp only [Act.put, List.setIfInBounds_toArray, List.set_cons_zero, List.set_cons_succ]
                  refine wpAnyU_one (i := 5) (o := { dst := some 92, op := Op.call { callee := Callee.builtin Builtin.append, args := #[Operand.tmp 88, Operand.tmp 91], argTypes := #[29, 29] }, type := 29, pos := "state.go:153", after := #[{ on := 1, ground := Ground.data }, { on := 4, ground := Ground.data }, { on := 3, ground := Ground.chain }], guard := none }) (by kernel_rfl) rfl (fun K hK => ?_)
                  skip
                  refine step_append_sl _ rfl (.tmp 88) (.tmp 91) 29 rfl (w.heap.size + 3) 23 i0 _ 1 24 Try.underlying29 hi0 hz0 hz1 hz2 rfl (by omega) (.slice A2 n2 c2) n2 us2 (by simp [Act.eval, Act.put]) own6 w6.heap.size (w6.heap.size + 1) (some ⟨w6.heap.size, 0, none⟩) 1 1 [.slice A5 part.length c5] (by simp [Act.eval, Act.put]) (Sl.new w6 23 #[.slice A5 part.length c5] 1 1 1 _ rfl (Nat.le_refl _) rfl rfl) (by intro u hu; simp at hu; subst hu; rfl) (n2 + 1) rfl _ rfl (by unfold maxLen; omega) (by omega) (by simp; omega) ?_; intro A7 c7 w7 own7 hg7; have k7 := (k6.alloc (.cells #[.slice A5 part.length c5] 23)).keep own6 hg7 (by omega); have kQ7 := (kQ6.alloc (.cells #[.slice A5 part.length c5] 23)).keep own6 hg7 (by omega); have ⟨kc7, kf7⟩ := k7.rules
                  refine hK.out _ _ (by (try dsimp only); exact ⟨k7.rules.1 2, kQ7.rules.1 0⟩) (fun hHeld => ?_)
                  clear hK K
                  try simp only [Act.put, List.setIfInBounds_toArray, List.set_cons_zero, List.set_cons_succ]
                  refine wpAnyU_one (i := 6) (o := { dst := some 93, op := Op.fieldAddr 31 (Operand.tmp 4) 2, type := 0, pos := "state.go:153", after := #[{ on := 0, ground := Ground.phase }, { on := 1, ground := Ground.phase }, { on := 2, ground := Ground.phase }, { on := 3, ground := Ground.phase }, { on := 4, ground := Ground.phase }, { on := 5, ground := Ground.phase }], guard := none }) (by kernel_rfl) rfl (fun K hK => ?_)
                  go_simp
                  skip
                  refine hK.out _ _ (by (try dsimp only); exact ⟨k7.rules.1 2, kQ7.rules.1 0⟩) (fun hHeld => ?_)
                  clear hK K
                  try simp only [Act.put, List.setIfInBounds_toArray, List.set_cons_zero, List.set_cons_succ]
                  refine wpAnyU_last (o := { dst := none, op := Op.store 29 (Operand.tmp 93) (Operand.tmp 92), type := 0, pos := "state.go:153", after := #[{ on := 6, ground := Ground.data }, { on := 5, ground := Ground.data }, { on := 5, ground := Ground.chain }, { on := 0, ground := Ground.phase }, { on := 1, ground := Ground.phase }, { on := 2, ground := Ground.phase }, { on := 3, ground := Ground.phase }, { on := 4, ground := Ground.phase }, { on := 5, ground := Ground.phase }], guard := none }) (by kernel_rfl) rfl (by kernel_rfl) (fun K hK => ?_)
                  go_simp
                  skip
                  refine hK.out _ _ ?_
                  clear hK K
                  try simp only [Act.put, List.setIfInBounds_toArray, List.set_cons_zero, List.set_cons_succ]
                  refine NoPanic.normal ?_
                  · have hg8 : w6.grownBy w6 (some w6.heap.size) := grownBy_refl w6 _
                    have bb6 := bb2.trans (b05.mono bb2.size)
                    have bb6a := bb6.alloc bb6.size (.cells #[.slice A5 part.length c5] 23)
                    have bb7 := bb6a.grown hg7 bb6a.size (fun k e => by have := (own6.lt k e).1; omega)
                    have bs5 := ((bs2.out.below b05 (Nat.le_refl _)).snoc rfl (own_more oB5 (by omega)))
                    have bs6 := (bs5.below ((Below.refl w6.heap.size w6).alloc (Nat.le_refl _) (.cells #[.slice A5 part.length c5] 23)) (Nat.le_refl _)).apart own6 (by decide) hg7
                    have kR7 := ((kR2.later b05).alloc (.cells #[.slice A5 part.length c5] 23)).keep own6 hg7 (by omega)
                    have k8 := k7.set_ 2 (.slice A7 (n2 + 1) c7)
                    simp only [List.setIfInBounds_toArray, List.set_cons_zero, List.set_cons_succ] at k8
                    have F := Lib.hid (show ∃ (A3 : Option Addr) (n3 c3 : Nat) (us3 : List Value), Blk (w7.setCell ⟨w.heap.size, 2, none⟩ (.slice A7 (n2 + 1) c7)) w.heap.size 31 #[.int .i64 b1, .int .i64 n1, .slice A3 n3 c3] ∧ n3 ≤ 90001 ∧ (w7.setCell ⟨w.heap.size, 2, none⟩ (.slice A7 (n2 + 1) c7)).ownsRow (w.heap.size + 3) 23 1 (.slice A3 n3 c3) n3 us3 ∧ Hid (Bs (w7.setCell ⟨w.heap.size, 2, none⟩ (.slice A7 (n2 + 1) c7)) (w.heap.size + 3) us3 (K1 ++ [part])) ∧ Blk (w7.setCell ⟨w.heap.size, 2, none⟩ (.slice A7 (n2 + 1) c7)) (w.heap.size + 2) 31 #[.int .i64 0, .int .i64 0, .slice none 0 0] ∧ Below w.heap.size w (w7.setCell ⟨w.heap.size, 2, none⟩ (.slice A7 (n2 + 1) c7)) from
                      ⟨A7, n2 + 1, c7, _, k8, by omega, own_setBlk own7 k7 (by decide) _ _, Lib.hid (bs6.blk k7 (by decide) _ _), kR7.far (by simp) _, bb7.setCell (Nat.le_refl _) _⟩)
                    clear hg8 bb6 bb6a bb7 bs5 bs6 kR7 k8 hg7 own7 own6 kc7 kf7 k7 k6
                    go_wp2_with fail
                    go_meet
                    exact F.out
                · have hm : M = K1 := by rw [HMM.out]; unfold dMore; rw [if_pos (of_decide_eq_true hin)]
                  subst hm
                  clear hin HMM HR HlM
                  go_wp2_with fail
                  go_meet
                  exact ⟨A2, n2, c2, us2, kP2, by omega, own2, bs2, kR2, bb2⟩
              case rest => as_aux_lemma =>
                clear own2 bs2 kP2 kQ2 kR2 bb2 kPc kPf HMM
                obtain ⟨A3, n3, c3, us3, kP, hn3, hown, hbs, kR, bb⟩ := hcut
                have ⟨kPc, kPf⟩ := kP.rules
                have HJ := Lib.hid (diffjoin_any (Sl.of_own hown) (Nat.le_refl _) hbs.out.ps (Nat.le_refl _) (by omega) HlM.out)
                have hj := jJoin_bad M
                obtain ⟨⟨d, j⟩, hq⟩ : ∃ q, q = jJoin M := ⟨_, rfl⟩
                rw [← hq] at HJ HR hj
                simp only at HJ HR hj
                clear hq HlM
                go_upto_region 15 with fail
                go_wp2_with fail
                refine HJ.out.mono ?_
                rintro e w6 ⟨A6, c6, rfl, o6, b6⟩
                have kP6 := kP.later b6
                have kR6 := kR.later b6
                have zz := kR.lt
                have own6 := own_below hown b6 (Nat.le_refl _)
                have hbs6 := hbs.out.below b6 (Nat.le_refl _)
                have bb6 := bb.trans (b6.mono bb.size)
                have o6' := own_more o6 (base' := w.heap.size + 3) (by omega)
                clear kP kR hown hbs bb kPc kPf HJ b6 o6
                obtain ⟨w7, hst, kS, g7, z7⟩ := prt_st kR6 rfl #[.int .i64 b1, .int .i64 n1, .slice A3 n3 c3] rfl rfl
                have q6 := bs3 kP6 rfl
                by_cases hj0 : j = 0
                · subst hj0
                  have hR := HR.out
                  subst hR
                  have F := Lib.hid (RetCo.mk (B := b1) (N := n1) (o := true) own6 hbs6 o6' bb6 g7)
                  clear own6 hbs6 o6' bb6 kP6 kR6 hj HR
                  go_wp2_with (first | ((with_reducible refine wpList_ldp q6 ?_ ?_); rfl) | ((with_reducible refine wpList_stp hst ?_ ?_); exact ⟨rfl, rfl⟩))
                  refine bodyPost_ret (results_cellp rfl _ rfl kS rfl) rfl ?_
                  exact F.out
                · obtain ⟨rfl, rfl⟩ : d = [] ∧ j = 190 := by
                    rcases hj with h | h
                    · exact absurd h hj0
                    · injection h with h1 h2
                      exact ⟨h1, h2⟩
                  have hR := HR.out
                  subst hR
                  have F := Lib.hid (RetCo.mk (B := b1) (N := n1) (o := false) own6 hbs6 (d := []) (D := none) (nd := 0) (cd := 0) (World.ownsRow_nil w6 (w.heap.size + 3) 5 1) bb6 g7)
                  clear own6 hbs6 o6' bb6 kP6 kR6 hj HR
                  go_wp2_with (first | ((with_reducible refine wpList_ldp q6 ?_ ?_); rfl) | ((with_reducible refine wpList_stp hst ?_ ?_); exact ⟨rfl, rfl⟩))
                  refine bodyPost_ret (results_cellp rfl _ rfl kS rfl) rfl ?_
                  exact F.out
        · have hR := Hno.out (of_decide_eq_true hq.out)
          subst hR
          obtain ⟨w5, hst, kS, g5, z5⟩ := prt_st kR rfl #[.int .i64 B0, .int .i64 N0, .slice A1 n c1] rfl rfl
          have q3 := bs3 kP rfl
          have F := Lib.hid (RetCo.mk (B := B0) (N := N0) (o := false) hown Hbs.out (d := []) (D := none) (nd := 0) (cd := 0) (World.ownsRow_nil w3 (w.heap.size + 3) 5 1) bb g5)
          clear hown Hbs kQ kP bb Hno Hyes Hkeep
          go_wp2_with (first | ((with_reducible refine wpList_ldp q3 ?_ ?_); rfl) | ((with_reducible refine wpList_stp hst ?_ ?_); exact ⟨rfl, rfl⟩))
          refine bodyPost_ret (results_cellp rfl _ rfl kS rfl) rfl ?_
          exact F.out
end Go.Proofs.Ytfeeincglijmjaa
