/- The walk of state's with: screens, and one more. -/
import Derived.Test.YtfeeincglijmjaaSI
import Derived.Test.YtfeeincglijmjaaSD
import Derived.Test.YtfeeincglijmjaaSF
namespace Go.Proofs.Ytfeeincglijmjaa
open Go.RowKit
set_option linter.unusedVariables false
set_option linter.unusedSimpArgs false
attribute [local go_sem ↓] Go.wp_at_zero Go.wp_at_succ

/-- Without the second one, if there are too many. -/
def dShort (l : List (Int × Scr)) : List (Int × Scr) := if l.length ≤ 8 then l else l.eraseIdx 1
theorem Shs.capped {w : World} {up n c : Nat} {A : Option Addr} {l : List Shn} (h : Shs w up A n c l) : Shs w up A n n l :=
  ⟨⟨h.sl.len, Nat.le_refl _, fun hA => by have := h.sl.nil hA; have := h.sl.le; omega, h.sl.at_⟩, h.ok⟩

/-- Its places lie beyond lo. -/
def Shn.Lo (w : World) (lo : Nat) (x : Shn) : Prop := ScrAt w lo w.heap.size x.s x.C x.cc x.M x.cm
theorem Shn.Own.lo {w : World} {base : Nat} {x : Shn} (h : x.Own w base) : x.Lo w base := ScrAt.own' h.1 h.2.1
theorem Shn.Lo.below {w w' : World} {lo B : Nat} {x : Shn} (h : x.Lo w lo) (hb : Below B w w') (hB : w.heap.size ≤ B) : x.Lo w' lo := (ScrAt.below h hb hB).more (Nat.le_refl _) hb.size
theorem Shn.Lo.more {w : World} {lo lo' : Nat} {x : Shn} (h : x.Lo w lo) (hl : lo' ≤ lo) : x.Lo w lo' := ScrAt.more h hl (Nat.le_refl _)
/-- Shown screens that are handed back, their places beyond any lo that L lets. -/
def RetSx (w : World) (P : List (Int × Scr)) (L : Nat → Prop) (e : Ending) (w' : World) : Prop :=
  ∃ A c K, e = .returned (.slice A K.length c) ∧ K.map Shn.p = P ∧ w'.ownsRow w.heap.size 39 17 (.slice A K.length c) K.length (shCells K) ∧ (∀ x ∈ K, Shn.Ok w' w'.heap.size x) ∧ Below w.heap.size w w' ∧ (∀ lo, L lo → ∀ x ∈ K, x.Lo w' lo)
theorem RetSx.sh {w w' : World} {P : List (Int × Scr)} {L : Nat → Prop} {e : Ending} (h : RetSx w P L e w') : RetSh w P e w' := by
  obtain ⟨A, c, K, h1, h2, h3, h4, h5, -⟩ := h
  exact ⟨A, c, K, h1, h2, h3, h4, h5⟩
theorem RetOw.sx {w w' : World} {P : List (Int × Scr)} {L : Nat → Prop} {e : Ending} (h : RetOw w P e w') (hL : ∀ lo, L lo → lo ≤ w.heap.size) : RetSx w P L e w' := by
  obtain ⟨A, c, K, h1, h2, h3, h4, h5⟩ := h
  exact ⟨A, c, K, h1, h2, h3, fun x hx => (h4 x hx).ok, h5, fun lo hlo x hx => (h4 x hx).lo.more (hL lo hlo)⟩

set_option maxHeartbeats 16000000 in
set_option maxRecDepth 100000 in
theorem with_lo {up : Nat} {A : Option Addr} {n c : Nat} {l : List Shn} {x : Shn} {w : World} (hr : Shs w up A n c l) (hup : up ≤ w.heap.size) (hn : n ≤ 8) (hn0 : 0 < n) (hok : ∀ y ∈ l, gOk y.s = true) (hx : x.Ok w up) :
    Calls Try.prog 46 #[.slice A n c, .agg x.v] w (RetSx w (dShort (l.map Shn.p ++ [x.p])) (fun lo => lo ≤ w.heap.size ∧ x.Lo w lo)) := by
  obtain ⟨i0, hi0, hz0, hz1, hz2⟩ := info_parts info39x
  have hlen := hr.len
  subst hlen
  have bb := (Below.refl w.heap.size w).alloc (Nat.le_refl _) (.cells x.v 39)
  have kb := Blk.new w 39 x.v rfl
  have HR := Lib.hid (fun W (b : Below w.heap.size w W) => own_any (hr.capped.below b hup) (Nat.le_trans hup b.size) (by omega) hok)
  have HX := Lib.hid (fun W (b : Below w.heap.size w W) => (hx.below b hup).more (Nat.le_trans hup b.size))
  have hz : w.heap.size + 1 ≤ (w.alloc (.cells x.v 39)).heap.size := by rw [World.size_alloc]; omega
  have hle := hr.sl.le
  have hs : x.v.size = 17 := rfl
  clear hr hx
  go_enter Try.func46, Try.ntmps46
  go_upto_region 1 with fail
  generalize w.alloc (.cells x.v 39) = w0 at *
  have HS := Lib.hid (fun W (q : Below w0.heap.size w0 W) => blk_cells (kb.below q (by omega)))
  have b01 : Below w0.heap.size w0 (w0.alloc (.cells x.v 39)).drew := ((Below.refl _ _).alloc (Nat.le_refl _) _).drew
  have bb2 : Below w.heap.size w (w0.alloc (.cells x.v 39)) := bb.alloc bb.size _
  have b00 : Below w0.heap.size w0 w0.drew := (Below.refl _ _).drew
  have hl1 : (l.length : Int) ≤ (c : Int) := by omega
  clear kb
  go_region_held3 (fun w' : World => w'.cell? ⟨w.heap.size, 0, none⟩ = some (.int .i64 x.num) ∧ w'.cell? ⟨w.heap.size, 1, none⟩ = some (.int .i64 x.s.W) ∧ w'.cell? ⟨w.heap.size, 2, none⟩ = some (.int .i64 x.s.H) ∧ w'.cell? ⟨w.heap.size, 3, none⟩ = some (.slice x.C x.s.cs.length x.cc) ∧ w'.cell? ⟨w.heap.size, 4, none⟩ = some (.int .i64 x.s.X) ∧ w'.cell? ⟨w.heap.size, 5, none⟩ = some (.int .i64 x.s.Y) ∧ w'.cell? ⟨w.heap.size, 6, none⟩ = some (.int .i64 x.s.At) ∧ w'.cell? ⟨w.heap.size, 7, none⟩ = some (.int .i64 x.s.Tp) ∧ w'.cell? ⟨w.heap.size, 8, none⟩ = some (.int .i64 x.s.Bt) ∧ w'.cell? ⟨w.heap.size, 9, none⟩ = some (.bool x.s.wr) ∧ w'.cell? ⟨w.heap.size, 10, none⟩ = some (.bool x.s.au) ∧ w'.cell? ⟨w.heap.size, 11, none⟩ = some (.bool x.s.hi) ∧ w'.cell? ⟨w.heap.size, 12, none⟩ = some (.bool x.s.al) ∧ w'.cell? ⟨w.heap.size, 13, none⟩ = some (.int .i64 x.s.s0) ∧ w'.cell? ⟨w.heap.size, 14, none⟩ = some (.int .i64 x.s.s1) ∧ w'.cell? ⟨w.heap.size, 15, none⟩ = some (.int .i64 x.s.s2) ∧ w'.cell? ⟨w.heap.size, 16, none⟩ = some (.slice x.M x.s.ms.length x.cm)) (first | exact HS.out _ (Below.refl _ _) | exact HS.out _ b00 | exact HS.out _ b05 | exact HS.out _ b05.drew | exact HS.out _ b06 | exact HS.out _ b06.drew | exact HS.out _ b01 | exact HS.out _ ((Below.refl _ _).alloc (Nat.le_refl _) _) | exact HS.out _ (b05.alloc z5 _) | go_keep)
    ((first
      | (go_at_call 45; refine (HR.out _ (by first | exact bb | exact bb.drew | exact bb2 | exact bb2.drew)).mono ?_; rintro e w5 ⟨A5, c5, K, rfl, hKp, own5, hKo, hb5⟩; have b05 : Below w0.heap.size w0 w5 := (by first | exact Below.trans b00 (hb5.mono (Nat.le_refl _)) | exact Below.trans b01 (hb5.mono (by simp))); have hKl : K.length ≤ 8 := (by have := congrArg List.length hKp; simp only [List.length_map] at this; omega); have z5 := b05.size; have own5' : w5.ownsRow w0.heap.size 39 17 (.slice A5 K.length c5) K.length (shCells K) := own_more own5 (by first | exact Nat.le_refl _ | simp))
      | (refine step_append_sl _ rfl (.tmp 12) (.tmp 14) 25 rfl w0.heap.size 39 i0 _ 17 144 Try.underlying25 hi0 hz0 hz1 hz2 rfl (by omega) (.slice A5 K.length c5) K.length (shCells K) (by simp [Act.eval, Act.put]) (own_alloc own5' _) w5.heap.size (w5.heap.size + 1) (some ⟨w5.heap.size, 0, none⟩) 1 1 (shCells [x]) (by simp [Act.eval, Act.put]) (sl_shn w5 x rfl) (shCells_one _) (K.length + 1) rfl _ (shCells_append _ _).symm (by unfold maxLen; omega) (by omega) (by first | exact z5 | (simp; omega)) ?_; intro A6 c6 w6 own6 hg6; have hblk : (∀ k, Value.ownBlock (.slice A5 K.length c5) = some k → w0.heap.size ≤ k) := (fun k e => (own5'.lt k e).1); have b06 : Below w0.heap.size w0 w6 := (by first | exact b05.grown hg6 z5 hblk | exact (b05.alloc z5 _).grown hg6 (by rw [World.size_alloc]; omega) hblk); have HK6 : Hid (∀ y ∈ K, Shn.Own w6 w0.heap.size y) := Lib.hid (by first | exact (fun y hy => (((hKo y hy).alloc _).far (own_alloc own5' _) hg6).more (by first | exact Nat.le_refl _ | simp)) | exact (fun y hy => ((hKo y hy).far own5' hg6).more (by first | exact Nat.le_refl _ | simp))))
      | (refine step_append_sl _ rfl (.tmp 12) (.tmp 14) 25 rfl w0.heap.size 39 i0 _ 17 144 Try.underlying25 hi0 hz0 hz1 hz2 rfl (by omega) (.slice A5 K.length c5) K.length (shCells K) (by simp [Act.eval, Act.put]) (own5') w0.heap.size (w0.heap.size + 1) (some ⟨w0.heap.size, 0, none⟩) 1 1 (shCells [x]) (by simp [Act.eval, Act.put]) (((sl_shn w0 x rfl).drew).below hb5 (by first | exact Nat.le_refl _ | simp)) (shCells_one _) (K.length + 1) rfl _ (shCells_append _ _).symm (by unfold maxLen; omega) (by omega) (by first | exact z5 | (simp; omega)) ?_; intro A6 c6 w6 own6 hg6; have hblk : (∀ k, Value.ownBlock (.slice A5 K.length c5) = some k → w0.heap.size ≤ k) := (fun k e => (own5'.lt k e).1); have b06 : Below w0.heap.size w0 w6 := (by first | exact b05.grown hg6 z5 hblk | exact (b05.alloc z5 _).grown hg6 (by rw [World.size_alloc]; omega) hblk); have HK6 : Hid (∀ y ∈ K, Shn.Own w6 w0.heap.size y) := Lib.hid (by first | exact (fun y hy => (((hKo y hy).alloc _).far (own_alloc own5' _) hg6).more (by first | exact Nat.le_refl _ | simp)) | exact (fun y hy => ((hKo y hy).far own5' hg6).more (by first | exact Nat.le_refl _ | simp))))))
  all_goals
    have hKl : K.length = l.length := by have := congrArg List.length hKp; simpa using this
    have HKo := Lib.hid (show ∀ y ∈ K ++ [x], Shn.Ok w6 w6.heap.size y by
      intro y hy
      rw [List.mem_append] at hy
      rcases hy with hy | hy
      · exact (HK6.out y hy).ok
      · simp only [List.mem_cons, List.not_mem_nil, or_false] at hy
        subst hy
        exact (HX.out _ (bb.trans (b06.mono bb.size))))
    have HKp := Lib.hid (show (K ++ [x]).map Shn.p = l.map Shn.p ++ [x.p] by rw [List.map_append, hKp]; rfl)
    have own7 : w6.ownsRow w.heap.size 39 17 (.slice A6 (l.length + 1) c6) (l.length + 1) (shCells (K ++ [x])) := by rw [← hKl]; exact own_more own6 bb.size
    have HG9 := Lib.hid (show ∀ w9, w6.grownBy w9 (Value.ownBlock (.slice A6 (l.length + 1) c6)) → ∀ y ∈ K ++ [x], Shn.Ok w9 w9.heap.size y by
      intro w9 h9 y hy
      rw [List.mem_append] at hy
      rcases hy with hy | hy
      · exact ((HK6.out y hy).far own7 h9).ok
      · simp only [List.mem_cons, List.not_mem_nil, or_false] at hy
        subst hy
        have q : Below w0.heap.size w6 w9 := (Below.refl _ _).grown h9 b06.size (fun k e => by have hb := (own6.lt k (by rw [hKl]; exact e)).1; exact hb)
        exact (HX.out _ (bb.trans ((b06.trans q).mono bb.size))))
    have HLo := Lib.hid (show ∀ w9, w6.grownBy w9 (Value.ownBlock (.slice A6 (l.length + 1) c6)) → ∀ lo, lo ≤ w.heap.size → x.Lo w lo → ∀ y ∈ K ++ [x], y.Lo w9 lo by
      intro w9 h9 lo hlo hxl y hy
      rw [List.mem_append] at hy
      rcases hy with hy | hy
      · exact ((HK6.out y hy).far own7 h9).lo.more (Nat.le_trans hlo bb.size)
      · simp only [List.mem_cons, List.not_mem_nil, or_false] at hy
        subst hy
        have q : Below w0.heap.size w6 w9 := (Below.refl _ _).grown h9 b06.size (fun k e => by have hb := (own6.lt k (by rw [hKl]; exact e)).1; exact hb)
        exact hxl.below (bb.trans ((b06.trans q).mono bb.size)) (Nat.le_refl _))
    rw [hKl]
    have bb6 := bb.trans (b06.mono bb.size)
    have z6 := b06.size
    have hL : (K ++ [x]).length = l.length + 1 := by rw [List.length_append, hKl]; rfl
    clear own6 hg6 own5 own5' hKo hKp HR HX HS b00 b01 bb2 b05 hb5 hKl HK6 hblk
    generalize K ++ [x] = K2 at *
    by_cases h8 : l.length = 8
    · have F := Lib.hid (fun w9 (h1 : w9.ownsRow w.heap.size 39 17 (.slice A6 8 c6) 8 (shCells (K2.eraseIdx 1))) (h2 : w6.grownBy w9 (Value.ownBlock (.slice A6 9 c6))) => (show RetSx w (dShort (l.map Shn.p ++ [x.p])) (fun lo => lo ≤ w.heap.size ∧ x.Lo w lo) (.returned (.slice A6 8 c6)) w9 by
        have hel : (K2.eraseIdx 1).length = 8 := by rw [List.length_eraseIdx, hL, h8]; rfl
        have q := (bb6.grown h2 bb6.size (fun k e => (own7.lt k (by rw [h8]; exact e)).1))
        refine ⟨A6, c6, K2.eraseIdx 1, by rw [hel], ?_, by rw [hel]; exact h1, fun y hy => HG9.out w9 (by rw [h8]; exact h2) y (List.mem_of_mem_eraseIdx hy), q, fun lo hlo y hy => HLo.out w9 (by rw [h8]; exact h2) lo hlo.1 hlo.2 y (List.mem_of_mem_eraseIdx hy)⟩
        rw [← HKp.out, show ∀ (L : List Shn), (L.eraseIdx 1).map Shn.p = (L.map Shn.p).eraseIdx 1 from fun L => by (rcases L with _ | ⟨a, _ | ⟨b, r⟩⟩ <;> rfl)]
        unfold dShort
        rw [if_neg (by rw [List.length_map, hL, h8]; omega)]))
      rw [h8] at own7 ⊢
      have HD := Lib.hid (deletes_any own7)
      clear own7 HKo HKp HG9 HLo
      go_wp2_with fail
      refine HD.out.mono ?_
      rintro e w9 ⟨rfl, o9, g9⟩
      have F9 := Lib.hid (F.out w9 o9 g9)
      clear F o9 g9 HD
      go_wp2_with fail
      go_ret
      exact F9.out
    · have F : Hid (RetSx w (dShort (l.map Shn.p ++ [x.p])) (fun lo => lo ≤ w.heap.size ∧ x.Lo w lo) (.returned (.slice A6 (l.length + 1) c6)) w6) := Lib.hid (by
        have h1 := HKp.out
        refine ⟨A6, c6, K2, by rw [hL], ?_, by rw [hL]; exact own7, HKo.out, bb6, fun lo hlo y hy => HLo.out w6 (grownBy_refl w6 _) lo hlo.1 hlo.2 y hy⟩
        rw [h1]
        unfold dShort
        rw [if_pos (by simp; omega)])
      have h9 : ¬ (8 < (l.length : Int) + 1) := by omega
      clear own7 HKo HKp HLo
      go_wp2_with fail
      go_ret
      exact F.out
theorem with_any {up : Nat} {A : Option Addr} {n c : Nat} {l : List Shn} {x : Shn} {w : World} (hr : Shs w up A n c l) (hup : up ≤ w.heap.size) (hn : n ≤ 8) (hn0 : 0 < n) (hok : ∀ y ∈ l, gOk y.s = true) (hx : x.Ok w up) :
    Calls Try.prog 46 #[.slice A n c, .agg x.v] w (RetSh w (dShort (l.map Shn.p ++ [x.p]))) :=
  (with_lo hr hup hn hn0 hok hx).mono fun e w' h => h.sh
end Go.Proofs.Ytfeeincglijmjaa
