/- Texts of this seat, one behind the other. -/
import Derived.Test.YtfeeincglijmjaaSC
import Derived.Test.YtfeeincglijmjaaEO
import Derived.Test.YtfeeincglijmjaaZB8
import Derived.Great.BuildSlice
import Derived.Deep.RegionHeld3
import Derived.Deep.DeepCutAuto
namespace Go.Proofs.Ytfeeincglijmjaa
open Go.RowKit
set_option linter.unusedVariables false
set_option linter.unusedSimpArgs false
attribute [local go_sem ↓] Go.wp_at_zero Go.wp_at_succ

/-- Shown screens that are handed back: a row of the callee's own. -/
def RetSh (w : World) (P : List (Int × Scr)) (e : Ending) (w' : World) : Prop :=
  ∃ A c K, e = .returned (.slice A K.length c) ∧ K.map Shn.p = P ∧ w'.ownsRow w.heap.size 39 17 (.slice A K.length c) K.length (shCells K) ∧ (∀ x ∈ K, Shn.Ok w' w'.heap.size x) ∧ Below w.heap.size w w'
theorem build39 (k : Int) (s : Scr) (C : Option Addr) (cc : Nat) (M : Option Addr) (cm : Nat) (W : World) : (Instr.build 39 #[(0, .int .i64 k), (1, .agg (s.v C cc M cm))]).run Try.prog W = .ok (.agg (Shn.v ⟨k, s, C, cc, M, cm⟩)) W :=
  run_build (P := Try.prog) W 39 #[(0, .int .i64 k), (1, .agg (s.v C cc M cm))] _ (by kernel_rfl)
theorem sl_shn (w : World) (x : Shn) {g : Nat} (hg : w.heap.size = g) : Sl (w.alloc (.cells x.v 39)) g (g + 1) 17 (some ⟨g, 0, none⟩) 1 1 (shCells [x]) :=
  Sl.new w 39 x.v 17 1 1 _ (g := g) hg (Nat.le_refl _) rfl (by simp [shCells])
theorem ScrAt.own' {w : World} {base : Nat} {s : Scr} {C : Option Addr} {cc : Nat} {M : Option Addr} {cm : Nat} (h1 : w.ownsRow base 64 2 (.slice C s.cs.length cc) s.cs.length (cCells s.cs)) (h2 : w.ownsRow base 64 2 (.slice M s.ms.length cm) s.ms.length (cCells s.ms)) : ScrAt w base w.heap.size s C cc M cm := ⟨Sl.of_own h1, Sl.of_own h2⟩
/-- Its places are rows of the callee's own. -/
def Shn.Own (w : World) (base : Nat) (x : Shn) : Prop :=
  w.ownsRow base 64 2 (.slice x.C x.s.cs.length x.cc) x.s.cs.length (cCells x.s.cs) ∧ w.ownsRow base 64 2 (.slice x.M x.s.ms.length x.cm) x.s.ms.length (cCells x.s.ms) ∧ x.s.Len
theorem own_far {w w' : World} {base base2 s s2 n n2 : Nat} {e e2 : TypeId} {v v2 : Value} {xs ys : List Value} (h : w.ownsRow base e s v n xs) (h2 : w.ownsRow base2 e2 s2 v2 n2 ys) (hne : e ≠ e2) (hg : w.grownBy w' v2.ownBlock) : w'.ownsRow base e s v n xs := by
  refine ⟨h.1, ?_⟩
  rcases h.2 with h3 | ⟨g', cap, cur, hv, hg', hh, r⟩
  · exact .inl h3
  · refine .inr ⟨g', cap, cur, hv, hg', (hg.block g' (Array.getElem?_eq_some_iff.1 hh).1 (fun e3 => ?_)).trans hh, r⟩
    rcases h2.2 with ⟨rfl, _⟩ | ⟨g2, cap2, cur2, rfl, _, hh2, _⟩
    · cases e3
    · simp only [Value.ownBlock, Option.some.injEq] at e3
      subst e3
      rw [hh] at hh2
      injection hh2 with hh2
      injection hh2 with _ hh2
      exact hne hh2
theorem Shn.Own.far {w w' : World} {base base2 n : Nat} {x : Shn} {v : Value} {xs : List Value} (h : x.Own w base) (h2 : w.ownsRow base2 39 17 v n xs) (hg : w.grownBy w' v.ownBlock) : x.Own w' base :=
  ⟨own_far h.1 h2 (by decide) hg, own_far h.2.1 h2 (by decide) hg, h.2.2⟩
theorem Shn.Own.below {w w' : World} {base B : Nat} {x : Shn} (h : x.Own w base) (hb : Below B w w') (hB : w.heap.size ≤ B) : x.Own w' base := ⟨own_below h.1 hb hB, own_below h.2.1 hb hB, h.2.2⟩
theorem Shn.Own.alloc {w : World} {base : Nat} {x : Shn} (h : x.Own w base) (o : Obj) : x.Own (w.alloc o) base := ⟨own_alloc h.1 o, own_alloc h.2.1 o, h.2.2⟩
theorem Shn.Own.more {w : World} {base base' : Nat} {x : Shn} (h : x.Own w base) (hb : base' ≤ base) : x.Own w base' := ⟨own_more h.1 hb, own_more h.2.1 hb, h.2.2⟩
theorem Shn.Own.ok {w : World} {base : Nat} {x : Shn} (h : x.Own w base) : x.Ok w w.heap.size := ⟨(ScrAt.own' h.1 h.2.1).more (Nat.zero_le _) (Nat.le_refl _), h.2.2⟩
/-- Shown screens that are handed back, all of the callee's own. -/
def RetOw (w : World) (P : List (Int × Scr)) (e : Ending) (w' : World) : Prop :=
  ∃ A c K, e = .returned (.slice A K.length c) ∧ K.map Shn.p = P ∧ w'.ownsRow w.heap.size 39 17 (.slice A K.length c) K.length (shCells K) ∧ (∀ x ∈ K, x.Own w' w.heap.size) ∧ Below w.heap.size w w'
theorem RetOw.sh {w w' : World} {P : List (Int × Scr)} {e : Ending} (h : RetOw w P e w') : RetSh w P e w' := by
  obtain ⟨A, c, K, h1, h2, h3, h4, h5⟩ := h
  exact ⟨A, c, K, h1, h2, h3, fun x hx => (h4 x hx).ok, h5⟩
theorem gOk_len {s : Scr} (h : gOk s = true) : s.cs.length ≤ 4096 ∧ s.ms.length ≤ 4096 := by
  obtain ⟨b1, b2, _⟩ := gOk_parts h
  have ar := area b1
  have := b2.1
  exact ⟨by omega, gOk_ms h⟩
set_option maxHeartbeats 16000000 in
set_option maxRecDepth 100000 in
theorem own_any {up : Nat} {A : Option Addr} {n c : Nat} {l : List Shn} {w : World} (hr : Shs w up A n c l) (hup : up ≤ w.heap.size) (hn : n ≤ 1000) (hok : ∀ x ∈ l, gOk x.s = true) :
    Calls Try.prog 45 #[.slice A n c] w (RetOw w (l.map Shn.p)) := by
  obtain ⟨i0, hi0, hz0, hz1, hz2⟩ := info_parts info39x
  have hlen := hr.len
  subst hlen
  have HR := Lib.hid hr
  have HK := Lib.hid hok
  clear hr hok
  go_enter Try.func45, Try.ntmps45
  go_wp2_with fail
  go_loopg [2, 7] l.length (fun gh s2 s7 wr => ∃ (i : Nat) (A2 : Option Addr) (c2 : Nat) (K : List Shn), gh = l.length - i ∧ i ≤ l.length ∧ s2 = .slice A2 i c2 ∧ Hid (K.length = i) ∧ s7 = .int .i64 i ∧ Hid (K.map Shn.p = (l.map Shn.p).take i) ∧
    wr.ownsRow w.heap.size 39 17 (.slice A2 i c2) i (shCells K) ∧ Hid (∀ x ∈ K, x.Own wr w.heap.size) ∧ Below w.heap.size w wr)
  case atStart => exact ⟨0, none, 0, [], by omega, by omega, rfl, Lib.hid rfl, rfl, Lib.hid (by simp), World.ownsRow_nil _ _ _ _, Lib.hid (fun x hx => by cases hx), Below.refl _ _⟩
  case round =>
    obtain ⟨i, A2, c2, K, hgm, hi, rfl, hKl, rfl, hKp, hown, hKo, bb⟩ := hrel
    have z0 := bb.size
    have HGM := Lib.hid hgm
    clear hgm
    by_cases h : i < l.length
    · have hO := HR.out.below bb hup
      obtain ⟨b, o, rfl, hgu, hc⟩ := hO.cell (by omega)
      have hc := hc i h
      have a1 := addr_add b o (i * 17)
      have hokx := hO.ok l[i] (List.getElem_mem h)
      have hgk := HK.out l[i] (List.getElem_mem h)
      have HP2 := Lib.hid (show (l.map Shn.p).take (i + 1) = (l.map Shn.p).take i ++ [l[i].p] by rw [List.take_succ_eq_append_getElem (by simpa using h), List.getElem_map])
      have hiI : (i : Int) < l.length := by omega
      clear hO
      generalize l[i] = x at *
      obtain ⟨W4, hst, kb, b4, z4⟩ := shn_new wr x
      have hok4 := hokx.below b4 (Nat.le_trans hup z0)
      have hgl := gOk_len hgk
      have HC := Lib.hid (fun W (b : Below W4.heap.size W4 W) => copy_own (hok4.1.below b (by omega)) (by have := b.size; omega) ⟨by omega, by omega⟩ hgk)
      have bb4 := bb.trans (b4.mono z0)
      have hown4 := own_below hown b4 (Nat.le_refl _)
      have Hlen := Lib.hid hok4.2
      have kb : Blk W4 wr.heap.size 39 (#[.int .i64 x.num, .int .i64 x.s.W, .int .i64 x.s.H, .slice x.C x.s.cs.length x.cc, .int .i64 x.s.X, .int .i64 x.s.Y, .int .i64 x.s.At, .int .i64 x.s.Tp, .int .i64 x.s.Bt, .bool x.s.wr, .bool x.s.au, .bool x.s.hi, .bool x.s.al, .int .i64 x.s.s0, .int .i64 x.s.s1, .int .i64 x.s.s2, .slice x.M x.s.ms.length x.cm] : Array Value) := kb
      have ab0 := addr_add wr.heap.size 0
      have ab1 := addr_add wr.heap.size (0 + 1)
      have ab1' := addr_add wr.heap.size 1
      have HKo := Lib.hid (fun y (hy : y ∈ K) => (hKo.out y hy).below b4 (Nat.le_refl _))
      have Hlt := Lib.hid hown.lt
      clear hokx hok4 hown hKo
      go_upto_region 4 with (first | ((with_reducible refine wpList_ldh hc ?_ ?_); rfl) | ((with_reducible refine wpList_sth hst ?_ ?_); exact ⟨rfl, rfl⟩))
      clear hc hst a1
      have b00 : Below W4.heap.size W4 W4.drew := (Below.refl _ _).drew
      go_region_held3 (fun w' : World => w'.cell? ⟨wr.heap.size, 0, none⟩ = some (.int .i64 x.num) ∧ w'.cell? ⟨wr.heap.size, 1, none⟩ = some (.int .i64 x.s.W) ∧ w'.cell? ⟨wr.heap.size, 2, none⟩ = some (.int .i64 x.s.H) ∧ w'.cell? ⟨wr.heap.size, 3, none⟩ = some (.slice x.C x.s.cs.length x.cc) ∧ w'.cell? ⟨wr.heap.size, 4, none⟩ = some (.int .i64 x.s.X) ∧ w'.cell? ⟨wr.heap.size, 5, none⟩ = some (.int .i64 x.s.Y) ∧ w'.cell? ⟨wr.heap.size, 6, none⟩ = some (.int .i64 x.s.At) ∧ w'.cell? ⟨wr.heap.size, 7, none⟩ = some (.int .i64 x.s.Tp) ∧ w'.cell? ⟨wr.heap.size, 8, none⟩ = some (.int .i64 x.s.Bt) ∧ w'.cell? ⟨wr.heap.size, 9, none⟩ = some (.bool x.s.wr) ∧ w'.cell? ⟨wr.heap.size, 10, none⟩ = some (.bool x.s.au) ∧ w'.cell? ⟨wr.heap.size, 11, none⟩ = some (.bool x.s.hi) ∧ w'.cell? ⟨wr.heap.size, 12, none⟩ = some (.bool x.s.al) ∧ w'.cell? ⟨wr.heap.size, 13, none⟩ = some (.int .i64 x.s.s0) ∧ w'.cell? ⟨wr.heap.size, 14, none⟩ = some (.int .i64 x.s.s1) ∧ w'.cell? ⟨wr.heap.size, 15, none⟩ = some (.int .i64 x.s.s2) ∧ w'.cell? ⟨wr.heap.size, 16, none⟩ = some (.slice x.M x.s.ms.length x.cm)) (first | exact ⟨kb.rules.1 0, kb.rules.1 1, kb.rules.1 2, kb.rules.1 3, kb.rules.1 4, kb.rules.1 5, kb.rules.1 6, kb.rules.1 7, kb.rules.1 8, kb.rules.1 9, kb.rules.1 10, kb.rules.1 11, kb.rules.1 12, kb.rules.1 13, kb.rules.1 14, kb.rules.1 15, kb.rules.1 16⟩ | exact ⟨k5.rules.1 0, k5.rules.1 1, k5.rules.1 2, k5.rules.1 3, k5.rules.1 4, k5.rules.1 5, k5.rules.1 6, k5.rules.1 7, k5.rules.1 8, k5.rules.1 9, k5.rules.1 10, k5.rules.1 11, k5.rules.1 12, k5.rules.1 13, k5.rules.1 14, k5.rules.1 15, k5.rules.1 16⟩ | exact ⟨k6.rules.1 0, k6.rules.1 1, k6.rules.1 2, k6.rules.1 3, k6.rules.1 4, k6.rules.1 5, k6.rules.1 6, k6.rules.1 7, k6.rules.1 8, k6.rules.1 9, k6.rules.1 10, k6.rules.1 11, k6.rules.1 12, k6.rules.1 13, k6.rules.1 14, k6.rules.1 15, k6.rules.1 16⟩ | go_keep)
        ((first
          | (go_at_call 29; refine (HC.out _ (by first | exact b00 | exact Below.refl _ _)).mono ?_; rintro e w5 ⟨C5, cc5, M5, cm5, rfl, oC5, oM5, hb5⟩; unfold Scr.v; have b05 : Below W4.heap.size W4 w5 := (by first | exact Below.trans b00 hb5 | exact hb5); have k5 : Blk w5 wr.heap.size 39 (#[.int .i64 x.num, .int .i64 x.s.W, .int .i64 x.s.H, .slice x.C x.s.cs.length x.cc, .int .i64 x.s.X, .int .i64 x.s.Y, .int .i64 x.s.At, .int .i64 x.s.Tp, .int .i64 x.s.Bt, .bool x.s.wr, .bool x.s.au, .bool x.s.hi, .bool x.s.al, .int .i64 x.s.s0, .int .i64 x.s.s1, .int .i64 x.s.s2, .slice x.M x.s.ms.length x.cm] : Array Value) := kb.later b05; have z5 := b05.size)
          | (refine step_append_sl _ rfl (.tmp 11) (.tmp 18) 25 rfl w.heap.size 39 i0 _ 17 144 Try.underlying25 hi0 hz0 hz1 hz2 rfl (by omega) (.slice A2 i c2) i (shCells K) (by simp [Act.eval, Act.put]) (own_alloc (own_below hown4 b05 (Nat.le_refl _)) _) w5.heap.size (w5.heap.size + 1) (some ⟨w5.heap.size, 0, none⟩) 1 1 (shCells [⟨x.num, x.s, C5, cc5, M5, cm5⟩]) (by simp [Act.eval, Act.put]) (sl_shn w5 ⟨x.num, x.s, C5, cc5, M5, cm5⟩ rfl) (shCells_one _) (i + 1) rfl _ (shCells_append _ _).symm (by unfold maxLen; omega) (by omega) (by simp; omega) ?_; intro A6 c6 w6 own6 hg6; have k6 : Blk w6 wr.heap.size 39 (#[.int .i64 x.num, .int .i64 x.s.W, .int .i64 x.s.H, .slice x.C x.s.cs.length x.cc, .int .i64 x.s.X, .int .i64 x.s.Y, .int .i64 x.s.At, .int .i64 x.s.Tp, .int .i64 x.s.Bt, .bool x.s.wr, .bool x.s.au, .bool x.s.hi, .bool x.s.al, .int .i64 x.s.s0, .int .i64 x.s.s1, .int .i64 x.s.s2, .slice x.M x.s.ms.length x.cm] : Array Value) := ((kb.later b05).alloc _).grown hg6 (fun e => Nat.lt_irrefl _ (Hlt.out _ e.symm).2))))
      have own7 : w6.ownsRow w.heap.size 39 17 (.slice A6 (i + 1) c6) (i + 1) (shCells (K ++ [⟨x.num, x.s, C5, cc5, M5, cm5⟩])) := own6
      have bb5 := bb4.trans (b05.mono bb4.size)
      have bb6 := (bb5.alloc bb5.size (.cells (Shn.v ⟨x.num, x.s, C5, cc5, M5, cm5⟩) 39)).grown hg6 (by rw [World.size_alloc]; have := bb5.size; omega) (fun k e => (Hlt.out k e).1)
      have ow5 := own_alloc (own_below hown4 b05 (Nat.le_refl _)) (.cells (Shn.v ⟨x.num, x.s, C5, cc5, M5, cm5⟩) 39)
      have HKo6 := Lib.hid (show ∀ y ∈ K ++ [⟨x.num, x.s, C5, cc5, M5, cm5⟩], Shn.Own w6 w.heap.size y by
        intro y hy
        rw [List.mem_append] at hy
        rcases hy with hy | hy
        · exact (((HKo.out y hy).below b05 (Nat.le_refl _)).alloc _).far ow5 hg6
        · simp only [List.mem_cons, List.not_mem_nil, or_false] at hy
          subst hy
          have hx5 : Shn.Own w5 w.heap.size ⟨x.num, x.s, C5, cc5, M5, cm5⟩ := ⟨own_more oC5 (by first | exact bb4.size | (show w.heap.size ≤ W4.drew.heap.size; exact bb4.size)), own_more oM5 (by first | exact bb4.size | (show w.heap.size ≤ W4.drew.heap.size; exact bb4.size)), Hlen.out⟩
          exact (hx5.alloc _).far ow5 hg6)
      clear own6 hg6 k6 k5 oC5 oM5 hb5 hown4 ow5 bb4 bb5
      go_wp2_with fail
      go_roundg (l.length - (i + 1))
      case measure => have := HGM.out; omega
      case rel => exact ⟨i + 1, A6, c6, K ++ [⟨x.num, x.s, C5, cc5, M5, cm5⟩], rfl, by omega, rfl, Lib.hid (by rw [List.length_append, hKl.out]; rfl), by go_num, Lib.hid (by rw [List.map_append, hKp.out, HP2.out]; rfl), own7, HKo6, bb6⟩
    · obtain rfl : i = l.length := by omega
      have F : Hid (RetOw w (l.map Shn.p) (.returned (.slice A2 l.length c2)) wr) := Lib.hid (by
        have h1 := hKl.out
        have h2 := hKp.out
        rw [List.take_of_length_le (by simp)] at h2
        exact ⟨A2, c2, K, by rw [h1], h2, by rw [h1]; exact hown, hKo.out, bb⟩)
      clear hKl hKp hown hKo
      go_wp2_with fail
      go_ret
      exact F.out
end Go.Proofs.Ytfeeincglijmjaa
