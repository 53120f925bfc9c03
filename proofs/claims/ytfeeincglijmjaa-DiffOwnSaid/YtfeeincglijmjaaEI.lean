/- Apply, whole: its contract. -/
import Derived.Test.YtfeeincglijmjaaEP
namespace Go.Proofs.Ytfeeincglijmjaa
open Go.RowKit
set_option linter.unusedVariables false
set_option linter.unusedSimpArgs false

theorem oBit_dBits (b : Scr) : oBit (dBits b) 0 = b.wr ∧ oBit (dBits b) 1 = b.au ∧ oBit (dBits b) 2 = b.hi ∧ oBit (dBits b) 3 = b.al := by
  unfold dBits
  cases b.wr <;> cases b.au <;> cases b.hi <;> cases b.al <;> decide
theorem cOk_bnd {l : List (Int × Int)} (h : ∀ c ∈ l, cOk c = true) : ∀ c ∈ l, c.1 ≤ 4611686018427387903 ∧ c.2 ≤ 4611686018427387903 := by
  intro c hc
  have := h c hc
  simp only [cOk, Bool.and_eq_true, inB_true] at this
  omega
/-- What stands behind a head. -/
def dBody (s b : Scr) : List Int := dChg (dGround s b.W b.H).1 b.cs ++ (if b.al then dChg (dGround s b.W b.H).2 b.ms else [])
theorem diff_back {s b : Scr} {d : List UInt8} (h : dDiff' s b = (d, 0)) : gOk s = true ∧ gOk b = true ∧ vAll d = (b.W :: b.H :: b.X :: b.Y :: b.At :: b.Tp :: b.Bt :: dBits b :: b.s0 :: b.s1 :: b.s2 :: dBody s b, 0) ∧ d = vCat (dNums s b) ∧
    nChg (dGround s b.W b.H).1 (dBody s b) false = (b.cs, (if b.al then dChg (dGround s b.W b.H).2 b.ms else []), false) ∧ (b.al = true → nChg (dGround s b.W b.H).2 (if b.al then dChg (dGround s b.W b.H).2 b.ms else []) false = (b.ms, [], false)) ∧ (b.al = false → b.ms = []) := by
  unfold dDiff' at h
  split at h
  rotate_left
  · injection h with h1 h2
    exact absurd h2 (by decide)
  rename_i hg
  simp only [Bool.and_eq_true] at hg
  obtain ⟨h1, h2⟩ := hg
  have hb := nums_bnd (s := s) h2
  have hok : ∀ x ∈ dNums s b, vSize x ≠ 0 := fun x hx => by have := hb x hx; exact vSize_ne (by omega) (by omega)
  have hv : vJoin (dNums s b) = (vCat (dNums s b), 0) := by unfold vJoin; rw [if_pos hok]
  rw [hv] at h
  injection h with h3 _
  have hg := ground_len h1 h2
  obtain ⟨b1, b2, b3, _⟩ := gOk_parts h2
  have ar := area b1
  have hm := gOk_ms h2
  have hc := b2.1
  refine ⟨h1, h2, ?_, h3.symm, ?_, fun hal => ?_, fun hal => ?_⟩
  · rw [← h3, vAll_vCat hok]
    unfold dNums dBody dHead
    simp
  · exact nChg_chg hg.1 (by omega) (cOk_bnd b2.2) _
  · rw [if_pos hal]
    have := nChg_chg (hg.2 hal) (by omega) (cOk_bnd b3.2) []
    rwa [List.append_nil] at this
  · have := b3.1
    rw [hal] at this
    simp only [Bool.false_eq_true, if_false] at this
    exact List.eq_nil_of_length_eq_zero (by omega)
theorem scr_eta (b : Scr) : b = ⟨b.W, b.H, b.X, b.Y, b.At, b.Tp, b.Bt, b.wr, b.au, b.hi, b.al, b.s0, b.s1, b.s2, b.cs, b.ms⟩ := rfl
/-- What numbers make of a screen; whether they are lost. -/
def aTry (s : Scr) (x0 x1 x2 x3 x4 x5 x6 x7 x8 x9 x10 : Int) (r : List Int) : Scr × Bool :=
  if oBit x7 3 then
    (⟨x0, x1, x2, x3, x4, x5, x6, oBit x7 0, oBit x7 1, oBit x7 2, true, x8, x9, x10, (nChg (dGround s x0 x1).1 r false).1, (nChg (dGround s x0 x1).2 (nChg (dGround s x0 x1).1 r false).2.1 (nChg (dGround s x0 x1).1 r false).2.2).1⟩, (nChg (dGround s x0 x1).2 (nChg (dGround s x0 x1).1 r false).2.1 (nChg (dGround s x0 x1).1 r false).2.2).2.2)
  else (⟨x0, x1, x2, x3, x4, x5, x6, oBit x7 0, oBit x7 1, oBit x7 2, false, x8, x9, x10, (nChg (dGround s x0 x1).1 r false).1, []⟩, (nChg (dGround s x0 x1).1 r false).2.2)
theorem try_back {s b : Scr} {d : List UInt8} (h : dDiff' s b = (d, 0)) : aTry s b.W b.H b.X b.Y b.At b.Tp b.Bt (dBits b) b.s0 b.s1 b.s2 (dBody s b) = (b, false) := by
  obtain ⟨h1, h2, h3, h4, h5, h6, h7⟩ := diff_back h
  obtain ⟨q0, q1, q2, q3⟩ := oBit_dBits b
  unfold aTry
  rw [q0, q1, q2, q3, h5]
  cases hal : b.al
  · simp only [Bool.false_eq_true, if_false]
    rw [Prod.mk.injEq]
    refine ⟨?_, rfl⟩
    conv => rhs; rw [scr_eta b, hal, h7 hal]
  · have h8 := h6 hal
    rw [hal, if_pos rfl] at h8
    simp only [if_true]
    rw [h8]
    rw [Prod.mk.injEq]
    refine ⟨?_, rfl⟩
    conv => rhs; rw [scr_eta b, hal]
theorem diff_unique {s b b' : Scr} {d : List UInt8} (h : dDiff' s b = (d, 0)) (h' : dDiff' s b' = (d, 0)) : b = b' := by
  have e1 := (diff_back h).2.2.1
  have e2 := (diff_back h').2.2.1
  rw [e1] at e2
  simp only [Prod.mk.injEq, List.cons.injEq, and_true] at e2
  obtain ⟨r0, r1, r2, r3, r4, r5, r6, r7, r8, r9, r10, r11⟩ := e2
  have t1 := try_back h
  have t2 := try_back h'
  rw [r0, r1, r2, r3, r4, r5, r6, r7, r8, r9, r10, r11, t2] at t1
  injection t1 with t1 _
  exact t1.symm
open Classical in
/-- Apply. -/
noncomputable def dApply (s : Scr) (d : List UInt8) : Scr × Int :=
  if gOk s = true then (if h : ∃ b, dDiff' s b = (d, 0) then (Classical.choose h, 0) else (noScr, 190)) else (noScr, 170)
theorem apply_yes {s b : Scr} {d : List UInt8} (h : dDiff' s b = (d, 0)) : dApply s d = (b, 0) := by
  have hx : ∃ b, dDiff' s b = (d, 0) := ⟨b, h⟩
  unfold dApply
  rw [if_pos (diff_back h).1, dif_pos hx, diff_unique (Classical.choose_spec hx) h]
theorem apply_not {s : Scr} {d : List UInt8} (h1 : gOk s = true) (h : ¬ ∃ b, dDiff' s b = (d, 0)) : dApply s d = (noScr, 190) := by
  unfold dApply
  rw [if_pos h1, dif_neg h]
theorem vCat_ge : ∀ (l : List Int), (∀ x ∈ l, vSize x ≠ 0) → l.length ≤ (vCat l).length
  | [], _ => Nat.zero_le _
  | x :: l, h => by
    have h1 := h x (List.mem_cons_self ..)
    have h2 := vCat_ge l (fun y hy => h y (List.mem_cons_of_mem _ hy))
    have h3 := vBytes_length x
    unfold vCat at *
    rw [List.flatMap_cons, List.length_append, List.length_cons]
    omega
theorem apply_any {lo up lo2 up2 : Nat} {s : Scr} {C M D : Option Addr} {cc cm dc : Nat} {d : List UInt8} {w : World} (hat : ScrAt w lo up s C cc M cm) (hup : up ≤ w.heap.size) (hd : Sl w lo2 up2 1 D d.length dc (byteCells d)) (hup2 : up2 ≤ w.heap.size) (hl : s.Len) (hdl : d.length ≤ 1000000) :
    Calls Try.prog 27 #[.agg (s.v C cc M cm), .slice D d.length dc] w (RetAp w (dApply s d).1 (dApply s d).2) := by
  cases hg : gOk s
  · have e : dApply s d = (noScr, 170) := by unfold dApply; rw [if_neg (by rw [hg]; decide)]
    rw [e]
    exact apply_bad hat hup hd hup2 hl hg
  · by_cases hsh : (vAll d).2 ≠ 0 ∨ (vAll d).1.length < 11 ∨ 64 < max ((vAll d).1.getD 0 0) ((vAll d).1.getD 1 0)
    · have e : dApply s d = (noScr, 190) := by
        refine apply_not hg (fun ⟨b, hb⟩ => ?_)
        obtain ⟨h1, h2, h3, _⟩ := diff_back hb
        obtain ⟨b1, _⟩ := gOk_parts h2
        rw [h3] at hsh
        simp at hsh
        omega
      rw [e]
      exact apply_short hat hup hd hup2 hl hg hdl hsh
    · rcases vAll_back d with ⟨hv0, hvj⟩ | hv0
      rotate_left
      · rw [hv0] at hsh
        simp at hsh
      · obtain ⟨⟨L, en⟩, hq⟩ : ∃ q, q = vAll d := ⟨_, rfl⟩
        rw [← hq] at hsh hv0 hvj
        simp only at hsh hv0 hvj
        subst hv0
        have hall : ∀ x ∈ L, vSize x ≠ 0 := by
          unfold vJoin at hvj
          split at hvj
          · assumption
          · injection hvj with _ h
            exact absurd h (by decide)
        have hlen : L.length ≤ d.length := by
          unfold vJoin at hvj
          rw [if_pos hall] at hvj
          injection hvj with h _
          rw [← h]
          exact vCat_ge L hall
        match L, hsh, hlen, hall, hq with
        | x0 :: x1 :: x2 :: x3 :: x4 :: x5 :: x6 :: x7 :: x8 :: x9 :: x10 :: r, hsh, hlen, hall, hq =>
          have hb : ∀ x ∈ x0 :: x1 :: x2 :: x3 :: x4 :: x5 :: x6 :: x7 :: x8 :: x9 :: x10 :: r, 0 ≤ x ∧ x < 4611686018427387904 := fun x hx => vSize_range (hall x hx)
          have hx0 := hb x0 (by simp)
          have hx1 := hb x1 (by simp)
          have hx7 := hb x7 (by simp)
          have hr : ∀ x ∈ r, 0 ≤ x := fun x hx => (hb x (by simp [hx])).1
          simp only [List.length_cons] at hlen
          have hmx : ¬ (64 < max x0 x1) := fun h => hsh (.inr (.inr (by simpa using h)))
          obtain ⟨b1, b2, b3, _⟩ := gOk_parts hg
          have ar := area b1
          have hcl : s.cs.length ≤ 4096 ∧ s.ms.length ≤ 4096 := ⟨by have := b2.1; omega, gOk_ms hg⟩
          have hfin : ∀ (T : Scr) (lost B : Bool), aTry s x0 x1 x2 x3 x4 x5 x6 x7 x8 x9 x10 r = (T, lost) → (lost || !decide ((dDiff' s T).2 = 0) || !decide ((dDiff' s T).1 = d)) = B → (bif B then noScr else T) = (dApply s d).1 ∧ (bif B then (190 : Int) else 0) = (dApply s d).2 := by
            intro T lost B ht hB
            cases B
            · simp only [Bool.or_eq_false_iff, Bool.not_eq_false', decide_eq_true_eq] at hB
              obtain ⟨⟨_, h1⟩, h2⟩ := hB
              have e := apply_yes (s := s) (b := T) (d := d) (Prod.ext h2 h1)
              rw [e]
              exact ⟨rfl, rfl⟩
            · have e : dApply s d = (noScr, 190) := by
                refine apply_not hg (fun ⟨b, hb⟩ => ?_)
                have h3 := (diff_back hb).2.2.1
                rw [← hq] at h3
                simp only [Prod.mk.injEq, List.cons.injEq, and_true] at h3
                obtain ⟨r0, r1, r2, r3, r4, r5, r6, r7, r8, r9, r10, r11⟩ := h3
                have t := try_back hb
                rw [← r0, ← r1, ← r2, ← r3, ← r4, ← r5, ← r6, ← r7, ← r8, ← r9, ← r10, ← r11, ht] at t
                injection t with t1 t2
                subst t1 t2
                rw [hb] at hB
                simp at hB
              rw [e]
              exact ⟨rfl, rfl⟩
          cases hal : oBit x7 3
          · obtain ⟨e1, e2⟩ := hfin _ _ _ (by unfold aTry; rw [hal]) rfl
            rw [← e1, ← e2]
            exact apply_f hat hup hd hup2 hl hg hcl hdl hq.symm ⟨hx0.1, by omega⟩ ⟨hx1.1, by omega⟩ hr (by omega) ⟨hx7.1, by omega⟩ hal rfl rfl
          · obtain ⟨e1, e2⟩ := hfin _ _ _ (by unfold aTry; rw [hal]) rfl
            rw [← e1, ← e2]
            exact apply_t hat hup hd hup2 hl hg hcl hdl hq.symm ⟨hx0.1, by omega⟩ ⟨hx1.1, by omega⟩ hr (by omega) ⟨hx7.1, by omega⟩ hal rfl rfl
        | [], hsh, _, _, _ => exact absurd (.inr (.inl (by simp))) hsh
        | [_], hsh, _, _, _ => exact absurd (.inr (.inl (by simp))) hsh
        | [_, _], hsh, _, _, _ => exact absurd (.inr (.inl (by simp))) hsh
        | [_, _, _], hsh, _, _, _ => exact absurd (.inr (.inl (by simp))) hsh
        | [_, _, _, _], hsh, _, _, _ => exact absurd (.inr (.inl (by simp))) hsh
        | [_, _, _, _, _], hsh, _, _, _ => exact absurd (.inr (.inl (by simp))) hsh
        | [_, _, _, _, _, _], hsh, _, _, _ => exact absurd (.inr (.inl (by simp))) hsh
        | [_, _, _, _, _, _, _], hsh, _, _, _ => exact absurd (.inr (.inl (by simp))) hsh
        | [_, _, _, _, _, _, _, _], hsh, _, _, _ => exact absurd (.inr (.inl (by simp))) hsh
        | [_, _, _, _, _, _, _, _, _], hsh, _, _, _ => exact absurd (.inr (.inl (by simp))) hsh
        | [_, _, _, _, _, _, _, _, _, _], hsh, _, _, _ => exact absurd (.inr (.inl (by simp))) hsh
end Go.Proofs.Ytfeeincglijmjaa
