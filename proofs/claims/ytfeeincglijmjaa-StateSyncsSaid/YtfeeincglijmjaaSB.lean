/- Texts of this seat, one behind the other. -/
import Derived.Test.YtfeeincglijmjaaZB9
import Derived.Deep.DeepCutAuto
namespace Go.Proofs.Ytfeeincglijmjaa
open Go.RowKit
set_option linter.unusedVariables false
set_option linter.unusedSimpArgs false
attribute [local go_sem ↓] Go.wp_at_zero Go.wp_at_succ

theorem info39x : (Try.prog.info? 39).map (fun i => (i.zero, i.size, i.bytes)) = some (some (.agg #[.int .i64 0, .int .i64 0, .int .i64 0, .slice none 0 0, .int .i64 0, .int .i64 0, .int .i64 0, .int .i64 0, .int .i64 0, .bool false, .bool false, .bool false, .bool false, .int .i64 0, .int .i64 0, .int .i64 0, .slice none 0 0]), 17, 144) := by kernel_rfl
theorem shn_new (w : World) (x : Shn) :
    ∃ W', (Instr.storeAt 39 (.pointer (some ⟨w.heap.size, 0, none⟩)) (.agg x.v)).run Try.prog (w.alloc (.cells #[.int .i64 0, .int .i64 0, .int .i64 0, .slice none 0 0, .int .i64 0, .int .i64 0, .int .i64 0, .int .i64 0, .int .i64 0, .bool false, .bool false, .bool false, .bool false, .int .i64 0, .int .i64 0, .int .i64 0, .slice none 0 0] 39)) = .ok () W' ∧ Blk W' w.heap.size 39 x.v ∧ Below w.heap.size w W' ∧ w.heap.size + 1 ≤ W'.heap.size := by
  obtain ⟨W', h1, h2, h3, h4⟩ := shn_st (Blk.new w 39 #[.int .i64 0, .int .i64 0, .int .i64 0, .slice none 0 0, .int .i64 0, .int .i64 0, .int .i64 0, .int .i64 0, .int .i64 0, .bool false, .bool false, .bool false, .bool false, .int .i64 0, .int .i64 0, .int .i64 0, .slice none 0 0] rfl) rfl x
  exact ⟨W', h1, h2, ((Below.refl w.heap.size w).alloc (Nat.le_refl _) _).grown h3 (by simp) (fun k e => by cases e; exact Nat.le_refl _), by rw [h4]; simp⟩

set_option maxHeartbeats 4000000 in
set_option maxRecDepth 100000 in
theorem last_any {up : Nat} {A : Option Addr} {n c : Nat} {l : List Shn} {w : World} (hr : Shs w up A n c l) (hup : up ≤ w.heap.size) (hn : n ≤ 9223372036854775807) (x : Shn) (hx : l.getLast? = some x) :
    Calls Try.prog 44 #[.slice A n c] w fun e w' => e = .returned (.agg x.v) ∧ Below w.heap.size w w' := by
  have hlen := hr.len
  subst hlen
  obtain ⟨m, hm⟩ : ∃ m, l.length = m + 1 := by
    cases l with
    | nil => cases hx
    | cons y r => exact ⟨_, rfl⟩
  have hml : m < l.length := by omega
  have hxm : l[m] = x := by
    rw [List.getLast?_eq_getElem?, show l.length - 1 = m from by omega, List.getElem?_eq_getElem hml] at hx
    injection hx
  obtain ⟨b, o, rfl, hb, hc⟩ := hr.cell (by omega)
  have hcm := hc m hml
  rw [hxm] at hcm
  obtain ⟨W4, hst, kb, bb, hz⟩ := shn_new w x
  have hcm2 : (w.alloc (.cells #[.int .i64 0, .int .i64 0, .int .i64 0, .slice none 0 0, .int .i64 0, .int .i64 0, .int .i64 0, .int .i64 0, .int .i64 0, .bool false, .bool false, .bool false, .bool false, .int .i64 0, .int .i64 0, .int .i64 0, .slice none 0 0] 39)).rangeAt b (o + m * 17) x.v.toList := range_below hcm ((Below.refl w.heap.size w).alloc (Nat.le_refl _) _) (by omega)
  have a1 := addr_add b o (m * 17)
  have hmI : (m : Int) ≤ 9223372036854775806 := by omega
  have e1 : (l.length : Int) - 1 = m := by omega
  have e2 : (m : Int) < l.length := by omega
  clear hx hxm hc hcm hr hm
  generalize l.length = N at *
  go_enter Try.func44, Try.ntmps44
  go_wp2_with (first | ((with_reducible refine wpList_ldh hcm2 ?_ ?_); rfl) | ((with_reducible refine wpList_sth hst ?_ ?_); exact ⟨rfl, rfl⟩))
  refine bodyPost_ret (v := .agg x.v) ?_ rfl ⟨rfl, bb⟩
  exact results_cellh rfl _ rfl kb rfl

theorem rIdx_map {α β : Type} (f : α → β) (p : β → Bool) : ∀ (l : List α), rIdx p (l.map f) = rIdx (fun x => p (f x)) l := by
  intro l
  unfold rIdx
  rw [List.any_map, List.findIdx_map]
  rfl
/-- The place of a number; below 0: none. -/
def sFind (n : Int) (l : List (Int × Scr)) : Int := rIdx (fun x => x.1 == n) l
theorem sFind_p (n : Int) (l : List Shn) : sFind n (l.map Shn.p) = rIdx (fun x => x.num == n) l := rIdx_map _ _ _

set_option maxHeartbeats 4000000 in
theorem isnum_any {g : Nat} {k : Int} {x : Shn} {w : World} (h : Blk w g 3 #[.int .i64 k]) :
    Calls Try.prog 88 #[.agg x.v, .pointer (some ⟨g, 0, none⟩)] w fun e w' => e = .returned (.bool (x.num == k)) ∧ Below w.heap.size w w' := by
  have kb := h.alloc (.cells x.v 39)
  have hl := h.lt
  have kx := Blk.new w 39 x.v rfl
  have ⟨kc, _⟩ := kb.rules
  have k0 : (w.alloc (.cells x.v 39)).cell? ⟨w.heap.size, 0, none⟩ = some (.int .i64 x.num) := kx.rules.1 0
  have k1 : (w.alloc (.cells x.v 39)).cell? ⟨g, 0, none⟩ = some (.int .i64 k) := kc 0
  have bb := (Below.refl w.heap.size w).alloc (Nat.le_refl _) (.cells x.v 39)
  have hs : x.v.size = 17 := rfl
  obtain ⟨xv, hxv⟩ : ∃ q, q = x.v := ⟨_, rfl⟩
  rw [← hxv] at k0 k1 bb hs ⊢
  clear kc kb kx hxv h
  go_enter Try.func88, Try.ntmps88
  go_wp2
  go_ret
  exact ⟨rfl, bb⟩

set_option maxHeartbeats 4000000 in
set_option maxRecDepth 100000 in
theorem indexs_any {up g : Nat} {A : Option Addr} {n c : Nat} {l : List Shn} {k : Int} {w : World} (hr : Shs w up A n c l) (hup : up ≤ w.heap.size) (hg : Blk w g 3 #[.int .i64 k]) (hn : n ≤ 9223372036854775807) :
    Calls Try.prog 87 #[.slice A n c, .func (.func 88) #[] #[.pointer (some ⟨g, 0, none⟩)]] w fun e w' => e = .returned (.int .i64 (rIdx (fun x => x.num == k) l)) ∧ Below w.heap.size w w' := by
  have hlen := hr.len
  subst hlen
  have HR := Lib.hid hr
  have HG := Lib.hid hg
  have hgl := hg.lt
  clear hr hg
  go_enter Try.func87, Try.ntmps87
  go_wp2_with fail
  go_loopg [8] l.length (fun gh s8 wr => ∃ i : Nat, gh = l.length - i ∧ i ≤ l.length ∧ s8 = .int .i64 i ∧ Below w.heap.size w wr ∧ Hid (∀ j (h : j < l.length), j < i → (l[j].num == k) = false))
  case atStart => exact ⟨0, by omega, by omega, rfl, Below.refl _ _, Lib.hid (fun _ _ h => absurd h (by omega))⟩
  case round =>
    obtain ⟨i, hgm, hi, rfl, bb, hno⟩ := hrel
    have z0 := bb.size
    have HGM := Lib.hid hgm
    clear hgm
    by_cases h : i < l.length
    · obtain ⟨b, o, rfl, hgu, hc⟩ := (HR.out.below bb hup).cell (by omega)
      have hc := hc i h
      have a1 := addr_add b o (i * 17)
      have HC := Lib.hid (isnum_any (x := l[i]) (HG.out.below bb hgl))
      have hiI : (i : Int) < l.length := by omega
      cases hp : (l[i].num == k)
      · have hno2 : ∀ j (h : j < l.length), j < i + 1 → (l[j].num == k) = false := by
          intro j hj hj1
          by_cases hji : j < i
          · exact hno.out j hj hji
          · obtain rfl : j = i := by omega
            exact hp
        have Hno2 := Lib.hid hno2
        rw [hp] at HC
        clear hno hno2 hp
        generalize l[i] = x at *
        go_wp2_with ((with_reducible refine wpList_ldh hc ?_ ?_); rfl)
        refine HC.out.mono ?_
        rintro e w1 ⟨rfl, hb⟩
        go_wp2_with fail
        go_roundg (l.length - (i + 1))
        case measure => have := HGM.out; omega
        case rel => exact ⟨i + 1, rfl, by omega, by go_num, bb.trans (hb.mono z0), Hno2⟩
      · have Hidx := Lib.hid (rIdx_at (p := fun x : Shn => x.num == k) h hp hno.out)
        rw [hp] at HC
        clear hno hp
        generalize l[i] = x at *
        go_wp2_with ((with_reducible refine wpList_ldh hc ?_ ?_); rfl)
        refine HC.out.mono ?_
        rintro e w1 ⟨rfl, hb⟩
        go_wp2_with fail
        go_ret
        exact ⟨by rw [Hidx.out]; rfl, bb.trans (hb.mono z0)⟩
    · obtain rfl : i = l.length := by omega
      have Hidx := Lib.hid (rIdx_none (p := fun x : Shn => x.num == k) (fun j hj => hno.out j hj hj)).1
      clear hno
      go_wp2_with fail
      go_ret
      exact ⟨by rw [Hidx.out]; rfl, bb⟩

set_option maxHeartbeats 4000000 in
theorem find_any {up : Nat} {A : Option Addr} {n c : Nat} {l : List Shn} {k : Int} {w : World} (hr : Shs w up A n c l) (hup : up ≤ w.heap.size) (hn : n ≤ 9223372036854775807) :
    Calls Try.prog 53 #[.slice A n c, .int .i64 k] w fun e w' => e = .returned (.int .i64 (sFind k (l.map Shn.p))) ∧ Below w.heap.size w w' := by
  rw [sFind_p]
  have bb := (Below.refl w.heap.size w).alloc (Nat.le_refl _) (.cells #[.int .i64 k] 3)
  have HI := Lib.hid (indexs_any (g := w.heap.size) (k := k) (hr.below bb hup) (by rw [World.size_alloc]; omega) (Blk.new w 3 #[.int .i64 k] rfl) hn)
  clear hr
  go_enter Try.func53, Try.ntmps53
  go_wp2_with fail
  refine HI.out.mono ?_
  rintro e w1 ⟨rfl, hb⟩
  go_wp2_with fail
  go_ret
  exact ⟨rfl, bb.trans (hb.mono bb.size)⟩

set_option maxHeartbeats 4000000 in
set_option maxRecDepth 100000 in
theorem rfind_any {up : Nat} {A : Option Addr} {n c : Nat} {l : List Shn} {k : Int} {w : World} (hr : Shs w up A n c l) (hup : up ≤ w.heap.size) (hn : n ≤ 9223372036854775807) :
    Calls Try.prog 75 #[.slice A n c, .int .i64 k] w fun e w' => e = .returned (.int .i64 (sFind k (l.map Shn.p))) ∧ w' = w := by
  rw [sFind_p]
  have hlen := hr.len
  subst hlen
  have HR := Lib.hid hr
  clear hr
  go_enter Try.func75, Try.ntmps75
  go_wp2_with fail
  go_loopg [5] l.length (fun gh s5 wr => ∃ i : Nat, gh = l.length - i ∧ i ≤ l.length ∧ s5 = .int .i64 i ∧ wr = w ∧ Hid (∀ j (h : j < l.length), j < i → (l[j].num == k) = false))
  case atStart => exact ⟨0, by omega, by omega, rfl, rfl, Lib.hid (fun _ _ h => absurd h (by omega))⟩
  case round =>
    obtain ⟨i, hgm, hi, rfl, rfl, hno⟩ := hrel
    have HGM := Lib.hid hgm
    clear hgm
    by_cases h : i < l.length
    · obtain ⟨b, o, rfl, hgu, hc⟩ := HR.out.cell (by omega)
      have hc := range_num (hc i h)
      have a1 := addr_add b o (i * 17)
      have a2 := addr_add b (o + i * 17) 0
      have hiI : (i : Int) < l.length := by omega
      cases hp : (l[i].num == k)
      · have hno2 : ∀ j (h : j < l.length), j < i + 1 → (l[j].num == k) = false := by
          intro j hj hj1
          by_cases hji : j < i
          · exact hno.out j hj hji
          · obtain rfl : j = i := by omega
            exact hp
        have Hno2 := Lib.hid hno2
        clear hno hno2
        generalize l[i].num = x at *
        go_wp2_with fail
        go_roundg (l.length - (i + 1))
        case measure => have := HGM.out; omega
        case rel => exact ⟨i + 1, rfl, by omega, by go_num, rfl, Hno2⟩
      · have Hidx := Lib.hid (rIdx_at (p := fun x : Shn => x.num == k) h hp hno.out)
        clear hno
        generalize l[i].num = x at *
        go_wp2_with fail
        go_ret
        exact ⟨by rw [Hidx.out]; rfl, rfl⟩
    · obtain rfl : i = l.length := by omega
      have Hidx := Lib.hid (rIdx_none (p := fun x : Shn => x.num == k) (fun j hj => hno.out j hj hj)).1
      clear hno
      go_wp2_with fail
      go_ret
      exact ⟨by rw [Hidx.out]; rfl, rfl⟩
end Go.Proofs.Ytfeeincglijmjaa
